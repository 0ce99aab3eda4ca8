/- A part of what the proofs stand on: MerkleHoldsLaw, MerkleHalves0, MerklePacksLaw, Bulk. -/
import Derived.Test.YtjmbgdldnnmipaaDoorGMer15
import Derived.Test.YtjmbgdldnnmipaaDoorGMer16
import Derived.Test.YtjmbgdldnnmipaaDoorGMer11
import Derived.Test.YtjmbgdldnnmipaaDoorRows
/- The law MerkleHolds. (Printed by a program of mine.) -/
namespace Go.Proofs.YtjmbgdldnnmipaaDoor
set_option maxRecDepth 40000
open Go.RowKit
/-- Whether a branch holds. -/
def holdsB (n : Nat) (x y r : Nat → Nat) (p : Nat) : Bool := if n ≤ 64 then eqB (upN y x p n) r else false
theorem holds_any (n c : Nat) (A : Option Addr) (x y r : Nat → Nat) (p : Nat) (w : World) (hb : Rd w w.heap.size A (n * 32) (u8v x)) (hx : ∀ i, x i < 256) (hy : ∀ i, y i < 256) (hnc : n ≤ c) (hp : p < 18446744073709551616) (hpk : ShaPkg w) :
    Calls Tryd.prog 15 #[rootV y, .slice A n c, .int .u64 (p : Int), rootV r] w fun e w' => e = .returned (.bool (holdsB n x y r p)) ∧ Below w.heap.size w w' := by
  unfold holdsB
  by_cases h : n ≤ 64
  · rw [if_pos h]; exact holds_look n c A x y r p w hb hx hy hnc h hp hpk
  · rw [if_neg h]; exact holds_lookF n c A y r p w (by omega)
theorem holds_refA (n c : Nat) (A : Option Addr) (x y r : Nat → Nat) (p : Nat) (w : World) (hb : Rd w w.heap.size A (n * 32) (u8v x)) (hx : ∀ i, x i < 256) (hy : ∀ i, y i < 256) (hnc : n ≤ c) (hp : p < 18446744073709551616) (hpk : RefPkg w) :
    Calls Tryd.prog 16 #[rootV y, .slice A n c, .int .u64 (p : Int), rootV r] w fun e w' => e = .returned (.bool (holdsB n x y r p)) ∧ Below w.heap.size w w' := by
  unfold holdsB
  by_cases h : n ≤ 64
  · rw [if_pos h]; exact holds_ref n c A x y r p w hb hx hy hnc h hp hpk
  · rw [if_neg h]; exact holds_refF n c A y r p w (by omega)
theorem run_bs0_R (w : World) : (Instr.buildSlice 24 0 #[]).run Tryd.prog w = .ok (.slice (some ⟨w.heap.size, 0, none⟩) 0 0) (w.alloc (.cells #[] 23)) := by simp [go_sem]
namespace MerkleHoldsLaw
theorem ent_h1 (vs : Array Value) (w : World) : (callFunc 15 vs).run Tryd.prog w = .ok (.enter 15 vs) w := by kernel_rfl
theorem ent_h2 (vs : Array Value) (w : World) : (callFunc 16 vs).run Tryd.prog w = .ok (.enter 16 vs) w := by kernel_rfl
end MerkleHoldsLaw
open MerkleHoldsLaw in
set_option maxHeartbeats 4000000 in
theorem merkleHolds_law (w : World) (y : Nat → Nat) (hy : ∀ i, y i < 256) (A : Option Addr) (n c : Nat) (x : Nat → Nat) (hA : Rd w w.heap.size A (n * 32) (u8v x)) (hx : ∀ i, x i < 256) (hn : n * 32 ≤ 140737488351232) (hnc : n ≤ c) (p : Nat) (hpp : p < 18446744073709551616) (r : Nat → Nat) (_hr : ∀ i, r i < 256) (hp : ShaPkg w) (hpr : RefPkg w) :
    Calls Tryd.prog 3 #[rootV y, .slice A n c, .int .u64 (p : Int), rootV r] w fun e w' => e = .returned (.bool true) ∧ Below w.heap.size w w' := by
  have HX := Lib.hid hA
  have HXl := Lib.hid hx
  have HYl := Lib.hid hy
  have HP := Lib.hid hp
  have HPR := Lib.hid hpr
  have HS0 := Lib.hid (HS.nil w)
  clear hA hx hy hp hpr
  go_enter Tryd.func3, Tryd.ntmps3
  go_upto_region 3 with (first
    | (refine wpList_boxL rfl 23 _ 4 rfl rfl HS0.out 32 (u8v y) rfl ?_; intro b4 w4 hb4 hc4 hs; have HS4 := Lib.hid hs; clear hs)
    | (refine wpList_boxL rfl 23 _ 7 rfl rfl HS4.out 32 (u8v r) rfl ?_; intro b7 w7 hb7 hc7 hs; have HS7 := Lib.hid hs; clear hs)
    | (go_at_call 14; refine (awake05_any _ (HP.out.below (HS7.out.out (by simp; omega)))).mono ?_; rintro e wa ⟨rfl, hb⟩; have HA := Lib.hid (HS7.out.below hb); clear hb))
  have HW := Lib.hid (HA.out.out (by simp; omega))
  refine wp_region_facts (B := wa.heap.size) (w0 := wa) [SF.is (rootV y), SF.own0Z wa.heap.size 23 32, SF.is (.slice (A) (n) (c)), SF.ownZ wa.heap.size 23 32 n (u8v x), SF.is (.int .u64 ((p : Nat) : Int)), SF.is (rootV r), SF.is (.bool (holdsB n x y r p)), SF.is (rootV y), SF.is (.slice (A) (n) (c)), SF.is (.int .u64 ((p : Nat) : Int)), SF.is (rootV r), SF.is (.bool (holdsB n x y r p)), SF.is (.bool true), SF.is (.bool true)] (by kernel_rfl) (by kernel_rfl) rfl (Nat.le_refl _) (Below.refl _ _) ⟨?_, ?_, ?_, ?_, ?_, ?_, ?_, ?_, ?_, ?_, ?_, ?_, ?_, ?_, trivial⟩ ?_
  · exact opOb_ld rfl rfl (OpK.tmp rfl) (fun w' hb => ld_all (HA.out.row 1 rfl) (HA.out.row 1 rfl).lt Tryd.underlying23 rfl (by kernel_rfl) w' hb)
  · exact opOb_bs0Z 32 rfl rfl run_bs0_R _ (Nat.le_refl _)
  · exact (opOb_move _ rfl (.inl rfl) rfl)
  · exact opOb_app0Z (s := 12) (x := 13) wa.heap.size (z := .agg (Array.replicate 32 (.int .u8 0))) (k := 32) (bytes := 32) (by kernel_rfl) Tryd.underlying24 (by rfl) (by omega) rfl rfl rfl rfl (fun w' hb => (HX.out.below (HW.out.trans (hb.mono HW.out.size)))) (fun _ _ => rfl) ⟨by omega, by omega⟩ (Nat.le_refl _)
  · exact (opOb_move _ rfl (.inl rfl) rfl)
  · exact opOb_ld rfl rfl (OpK.tmp rfl) (fun w' hb => ld_all (HA.out.row 0 rfl) (HA.out.row 0 rfl).lt Tryd.underlying23 rfl (by kernel_rfl) w' hb)
  · exact opOb_fn4S ent_h1 rfl rfl (OpK.tmp rfl) rfl (OpK.tmp rfl) (OpK.tmp rfl) (fun w' v hb hv => by obtain ⟨A', c', rfl, ho⟩ := hv; exact (holds_any n c' A' x y r p w' ho.rd HXl.out HYl.out ho.cap hpp (HP.out.below (HW.out.trans (hb.mono HW.out.size)))).mono fun e w'' ⟨he, hb2⟩ => ⟨_, he, rfl, hb2⟩)
  · exact opOb_ld rfl rfl (OpK.tmp rfl) (fun w' hb => ld_all (HA.out.row 1 rfl) (HA.out.row 1 rfl).lt Tryd.underlying23 rfl (by kernel_rfl) w' hb)
  · exact (opOb_move _ rfl (.inl rfl) rfl)
  · exact (opOb_move _ rfl (.inl rfl) rfl)
  · exact opOb_ld rfl rfl (OpK.tmp rfl) (fun w' hb => ld_all (HA.out.row 0 rfl) (HA.out.row 0 rfl).lt Tryd.underlying23 rfl (by kernel_rfl) w' hb)
  · exact opOb_fn4 ent_h2 rfl rfl (OpK.tmp rfl) (OpK.tmp rfl) (OpK.tmp rfl) (OpK.tmp rfl) (fun w' hb => (holds_refA n c A x y r p w' ((HX.out.below (HW.out.trans (hb.mono HW.out.size))).more (Nat.le_trans HW.out.size hb.size)) HXl.out HYl.out hnc hpp (HPR.out.below (HW.out.trans (hb.mono HW.out.size)))).mono fun e w'' ⟨he, hb2⟩ => ⟨_, he, rfl, hb2⟩)
  · exact opOb_eqBool (holdsB n x y r p) Tryd.underlying4 rfl rfl (OpK.tmp rfl) (OpK.tmp rfl)
  · exact (opOb_move _ rfl (.inr rfl) rfl)
  · intro w' hb
    simp only [fin, SF.is, SF.own0Z, SF.ownZ, forall_eq]
    simp only [Act.put, List.setIfInBounds_toArray, List.set_cons_succ, List.set_cons_zero]
    rintro _ _ _ _
    have hend := HW.out.trans (hb.mono HW.out.size)
    go_wp2_with fail
    go_ret
    exact ⟨rfl, hend⟩
end Go.Proofs.YtjmbgdldnnmipaaDoor
/- The law MerkleHalves: what its ways share. (Printed by a program of mine.) -/
namespace Go.Proofs.YtjmbgdldnnmipaaDoor
set_option maxRecDepth 40000
open Go.RowKit
theorem dep_pow (k : Nat) : dep (2 ^ k) = k := by
  have h1 := dep_le (l := 2 ^ k) (k := k) (Nat.le_refl _)
  have h2 := dep_ge (2 ^ k)
  rcases Nat.lt_or_ge (dep (2 ^ k)) k with h | h
  · have := Nat.pow_lt_pow_right (a := 2) (by omega) h; omega
  · omega
theorem treeN_two (e n h : Nat) (x : Nat → Nat) (hh : min (2 ^ e) n = h) : treeN (e + 1) n x = shaB (catN 32 (treeN e h x) (treeN e (n - h) (fun i => x (h * 32 + i)))) 64 := by
  by_cases hn : n = 0
  · subst hn
    obtain rfl : h = 0 := by omega
    rw [treeN_zero, treeN_zero, treeN_zero]; rfl
  · exact treeN_succ e n h x hn hh
/-- A row of the call's own that grows in memory that is followed. -/
theorem HS.appOld {w0 w w' : World} {rows : List RowSpec} {A : Option Addr} (h : HS w0 w rows) (hg : w.grownBy w' (A.map (·.block))) {B : Nat} (hA : ∀ ad, A = some ad → B ≤ ad.block) (hr : w0.heap.size ≤ B ∧ ∀ r ∈ rows, r.b < B) : HS w0 w' rows :=
  ⟨hg.os.trans h.os, hg.tape.trans h.tape, hg.output.trans h.output, Nat.le_trans h.size hg.size, fun k hk hr' => (hg.block k (Nat.lt_of_lt_of_le hk h.size) (fun e => by
    cases A with
    | none => cases e
    | some ad => injection e with e; have e' : k = ad.block := e; have := hA ad rfl; have := hr.1; omega)).trans (h.block k hk hr'), fun r hr' => (h.has r hr').of_block (hg.block r.b (h.has r hr').lt (fun e => by
    cases A with
    | none => cases e
    | some ad => injection e with e; have e' : r.b = ad.block := e; have := hA ad rfl; have := hr.2 r hr'; omega)), h.apart⟩
namespace MerkleHalvesLaw
theorem mul2 (m : Nat) (h : m ≤ 4611686018427387903) (w : World) : (binOp .mul 3 (.int .i64 2) (.int .i64 (m : Int))).run Tryd.prog w = .ok (.int .i64 ((2 * m : Nat) : Int)) w := by
  simp [go_sem, IntKind.wrap, IntKind.bits, IntKind.signed]
  omega
theorem quoN (N H : Nat) (h2 : H ≤ 4611686018427387903) (h : N = 2 * H) (w : World) : (binOp .quo 3 (.int .i64 (N : Int)) (.int .i64 2)).run Tryd.prog w = .ok (.int .i64 (H : Int)) w := by
  rw [h]; exact MerkleUp.quo2 H h2 w
theorem tup {f g : Nat → Nat} (h : ∀ i, i < 32 → f i = g i) : rootV f = rootV g := rootV_ext h
end MerkleHalvesLaw
end Go.Proofs.YtjmbgdldnnmipaaDoor
/- The law MerklePacks, where what is read is of bulk at most 1048576. (Printed by a program of mine.) -/
namespace Go.Proofs.YtjmbgdldnnmipaaDoor
set_option maxRecDepth 40000
open Go.RowKit
/-- A number is loaded from where it lies. -/
theorem run_load1 {P : Program} (w : World) (ad : Addr) (ty : TypeId) (k : IntKind) (v : Value) (h : w.cell? ad = some v) (hu : P.underlying ty = some (.int k)) : (Instr.loadAt ty (.pointer (some ad))).run P w = .ok v w := by
  simp only [Instr.loadAt, Instr.sureAddr, Sem.run_bind, Sem.run_pure, Result.andThen]
  have hagg : (isAgg ty).run P w = .ok false w := by
    unfold isAgg
    rw [Sem.run_bind, run_underlying hu w]
    rfl
  simp [loadVar, Sem.run_bind, hagg, h]
namespace MerklePacksLaw
theorem run_bs0_U (w : World) : (Instr.buildSlice 35 0 #[]).run Tryd.prog w = .ok (.slice (some ⟨w.heap.size, 0, none⟩) 0 0) (w.alloc (.cells #[] 5)) := by simp [go_sem]
theorem lssI (a b : Nat) (r : Bool) (h : decide ((a : Int) < (b : Int)) = r) (w : World) : (binOp .lss 3 (.int .i64 (a : Int)) (.int .i64 (b : Int))).run Tryd.prog w = .ok (.bool r) w := by
  subst h; simp [go_sem]
theorem geqI (a b : Nat) (r : Bool) (h : decide ((b : Int) ≤ (a : Int)) = r) (w : World) : (binOp .geq 3 (.int .i64 (a : Int)) (.int .i64 (b : Int))).run Tryd.prog w = .ok (.bool r) w := by
  subst h; simp [go_sem]
theorem quo32 (n N : Nat) (h : N = (n + 31) / 32) (hn : n ≤ 1048576) (w : World) : (binOp .quo 3 (.int .i64 ((n : Int) + 31)) (.int .i64 32)).run Tryd.prog w = .ok (.int .i64 (N : Int)) w := by
  subst h
  have e : ((n : Int) + 31).tdiv 32 = (((n + 31) / 32 : Nat) : Int) := by
    rw [Int.tdiv_eq_ediv_of_nonneg (by omega)]; omega
  simp [go_sem, e, IntKind.wrap, IntKind.bits, IntKind.signed]
  omega
theorem cat_row {i : Nat} {P : Nat → Nat} : ∀ q, q < (i + 1) * 32 * 1 → catF (i * 32 * 1) (u8v P) (u8v fun q => P (i * 32 + q)) q = u8v P q := fun q _ => by
  simp only [catF, u8v]
  split
  · rfl
  · rw [show i * 32 + (q - i * 32 * 1) = q by omega]
theorem cat_my {M m : Nat} {P y : Nat → Nat} : ∀ q, q < (M + m) * 1 → catF (M * 1) (u8v P) (u8v y) q = u8v (catN M P y) q := fun q _ => by
  simp only [catF, u8v, catN, Nat.mul_one]
  split <;> rfl
theorem cat_ry {N K : Nat} {P y : Nat → Nat} : ∀ q, q < K * 32 → catF (N * 32) (u8v P) (u8v y) q = u8v (catN (N * 32) P y) q := fun q _ => by
  simp only [catF, u8v, catN]
  split <;> rfl
end MerklePacksLaw
open MerklePacksLaw in
set_option maxHeartbeats 16000000 in
theorem merklePacks_law (w : World) (A : Option Addr) (n c : Nat) (x : Nat → Nat) (hA : Rd w w.heap.size A n (u8v x)) (_hx : ∀ i, x i < 256) (hn : n ≤ 1048576) (hnc : n ≤ c) (B : Option Addr) (m c2 : Nat) (y : Nat → Nat) (hB : Rd w w.heap.size B m (u8v y)) (_hy : ∀ i, y i < 256) (hm : m ≤ 1048576) (hmc : m ≤ c2) (hp : ShaPkg w) :
    Calls Tryd.prog 5 #[.slice A n c, .slice B m c2] w fun e w' => e = .returned (.bool true) ∧ Below w.heap.size w w' := by
  have HX := Lib.hid hA
  have HY := Lib.hid hB
  have HP := Lib.hid hp
  have HS0 := Lib.hid (HS.nil w)
  obtain ⟨N, hN⟩ : ∃ N, N = nch n := ⟨_, rfl⟩
  have hN1 : N * 32 < n + 32 := by rw [hN]; unfold nch; omega
  have hN2 : n ≤ N * 32 := by rw [hN]; unfold nch; omega
  have HNd := Lib.hid (show N = (n + 31) / 32 by omega)
  have HNe := Lib.hid hN.symm
  obtain ⟨P, hPd⟩ : ∃ P, P = padN n x := ⟨_, rfl⟩
  have HPe := Lib.hid hPd.symm
  have HPx := Lib.hid (show ∀ i, i < n → u8v x i = u8v P i by intro i hi; rw [hPd]; simp only [u8v, padN]; rw [if_pos hi])
  have HPz := Lib.hid (show ∀ i, ¬ i < n → u8v P i = .int .u8 0 by intro i hi; rw [hPd]; simp only [u8v, padN]; rw [if_neg hi]; rfl)
  clear hA hB hp hN hPd _hx _hy
  have tok1 := Tok.mk 1
  go_enter Tryd.func5, Tryd.ntmps5
  go_wp2_with (first
    | (go_at_call 14; refine (awake05_any _ HP.out).mono ?_; rintro e w1 ⟨rfl, hb⟩; have HS1 := Lib.hid (HS0.out.below hb); clear hb)
    | (go_at_call 20; have hx : Tok 1 := (by assumption); refine (pack_look n c A x _ ((HX.out.below HS1.out.bel).more HS1.out.size) hnc (by omega)).mono ?_; clear hx tok1; rintro e w2 ⟨A5, c5, rfl, ho, hb⟩; rw [HNe.out]; rw [HNe.out, HPe.out] at ho; have HL := Lib.hid ho; have HS2 := Lib.hid (HS1.out.below hb); clear ho hb; have tok2 := Tok.mk 2)
    | (refine wpList_as rfl 19 rfl (.int .i64 (N : Int)) ?_ ?_; (· exact ex_bin rfl rfl rfl rfl (fun w => quo32 n N HNd.out hn w) _)))
  go_loopw [6, 7] (fun o6 o7 wr => ∃ (i : Nat) (A6 : Option Addr) (c6 : Nat), o6 = .slice A6 (i * 32) c6 ∧ o7 = .int .i64 (i : Int) ∧ i ≤ N ∧ OwnZ wr w2.heap.size 5 1 A6 (i * 32) c6 (u8v P) ∧ Below w2.heap.size w2 wr) (fun _ ix _ => N - (intOf ix).toNat)
  case atStart => exact ⟨0, none, 0, by simp, rfl, by omega, by simpa using OwnZ.nil _ _ _ _ _, Below.refl _ _⟩
  case round =>
    obtain ⟨i, A6, c6, rfl, rfl, hi, ho, hw⟩ := hrel
    have HO := Lib.hid ho
    have HW := Lib.hid hw
    have hsz := hw.size
    clear ho hw
    by_cases hiN : i < N
    · have hoff := HL.out.off
      obtain ⟨ad, hAd, _, _⟩ := HL.out.rd (show 0 < N * 32 by omega)
      have had := hoff ad hAd
      obtain ⟨g, hg⟩ : ∃ g, g = ad.block := ⟨_, rfl⟩
      rw [← hg] at had
      rw [had] at hAd
      subst hAd
      clear hoff had hg
      have HLr := Lib.hid ((HL.out.rd.below HW.out).more hsz)
      have HC := Lib.hid (show Rd wr wr.heap.size (some ⟨g, i * 32, none⟩) (32 * 1) (u8v fun q => P (i * 32 + q)) from fun _ => by
        obtain ⟨ad', e1, e2, e3⟩ := HLr.out (show 0 < N * 32 by omega)
        injection e1 with e1
        subst e1
        refine ⟨_, rfl, e2, fun q hq => ?_⟩
        have h := e3 (i * 32 + q) (by omega)
        rw [add_litO, Nat.zero_add] at h
        rw [add_litO]
        exact h)
      go_wp2_with (first
        | (refine wpList_as rfl 30 rfl (.pointer (some ⟨g, i * 32, none⟩)) ?_ ?_; (· exact ex_idx rfl rfl rfl (fun w => (run_idxZ (z := 32) w Tryd.underlying24 (by kernel_rfl) ⟨g, 0, none⟩ (by omega)).trans (by rw [add_lit0])) _))
        | (refine wpList_as rfl 31 rfl (.slice (some ⟨g, i * 32, none⟩) 32 32) ?_ ?_; (· exact ex_slice rfl rfl rfl rfl (fun w => cut_arr Tryd.underlying23 1 (by kernel_rfl) none none (0) (32) (.inl ⟨rfl, rfl⟩) (.inl ⟨rfl, rfl⟩) (by omega) (by omega) (by omega) (by omega) (by omega) (by omega)) _))
        | (at_builtin; refine wpList_appZ _ (.tmp 27) (.tmp 31) 35 w2.heap.size (e := 5) (z := .int .u8 0) (k := 1) (bytes := 1) (by kernel_rfl) Tryd.underlying35 (by rfl) (by omega) rfl rfl ((i + 1) * 32) (u8v P) rfl rfl HO.out HC.out (fun _ _ => rfl) (by omega) cat_row ⟨by omega, by omega⟩ hsz ?_; intro A32 c32 w32 ho hg _; have HO32 := Lib.hid ho; have HB32 := Lib.hid (below_app HW.out hg hsz (fun ad e => (HO.out.base_le ad e).1)); clear ho hg))
      go_roundw
      case rel => exact ⟨i + 1, A32, c32, rfl, by go_num, by omega, HO32.out, HB32.out⟩
      case measure => simp [intOf]; omega
    · obtain rfl : i = N := by omega
      obtain ⟨M, hM⟩ : ∃ M, M = i * 32 := ⟨_, rfl⟩
      rw [← hM] at HO hN1 hN2 ⊢
      have HBq0 := Lib.hid (show Rd wr wr.heap.size A6 M (u8v P) by have h := HO.out.rd; rwa [Nat.mul_one] at h)
      have HK := Lib.hid (show nch (M + m) = i + nch m by unfold nch; omega)
      have hib : i ≤ 40000 := by omega
      have hKb : nch m ≤ 100000 := by unfold nch; omega
      obtain ⟨K, hK⟩ : ∃ K, K = i + nch m := ⟨_, rfl⟩
      have HKe := Lib.hid hK
      rw [← hK] at HK
      have hKb2 : K ≤ 200000 := by omega
      have HKx := Lib.hid (show ∀ q, q < K * 32 → u8v (padN (M + m) (catN M P y)) q = u8v (catN (i * 32) P (padN m y)) q by
        intro q _
        simp only [u8v, padN, catN]
        rw [hM]
        by_cases h1 : q < i * 32
        · rw [if_pos (by omega), if_pos h1, if_pos h1]
        · rw [if_neg h1, if_neg h1]
          by_cases h2 : q - i * 32 < m
          · rw [if_pos (by omega), if_pos h2]
          · rw [if_neg (by omega), if_neg h2])
      have HLq0 := Lib.hid ((HL.out.rd.below HW.out).more hsz)
      have HWq0 := Lib.hid (HS2.out.bel.trans (HW.out.mono HS2.out.size))
      have hq2 := HW.out.size
      clear hM hK HO HL HW HS1 HS2
      obtain ⟨wq, hwq⟩ : ∃ wq, wq = wr := ⟨_, rfl⟩
      rw [← hwq] at HBq0 HLq0 HWq0 ⊢
      clear hwq hq2 hsz
      have HBq := Lib.hid HBq0.out
      have HLq := Lib.hid HLq0.out
      have HWq := Lib.hid HWq0.out
      have HYq := Lib.hid ((HY.out.below HWq.out).more HWq.out.size)
      clear HBq0 HLq0 HWq0
      go_wp2_with fail
      go_loopw [8] (fun o wr => ∃ j : Nat, o = .int .i64 (j : Int) ∧ j ≤ M ∧ Below wq.heap.size wq wr) (fun o _ => M - (intOf o).toNat)
      case atStart => exact ⟨0, rfl, by omega, Below.refl _ _⟩
      case round =>
        obtain ⟨j, rfl, hj, hw⟩ := hrel
        have HW := Lib.hid hw
        clear hw
        by_cases hjM : j < M
        · have HO6 := Lib.hid HBq.out
          obtain ⟨ad6, hA6, _, _⟩ := HBq.out (show 0 < M by omega)
          subst hA6
          have HC6 : Hid (∀ w', Below wr.heap.size wr w' → ∀ q, q < M → w'.cell? (ad6.add (q * 1)) = some (u8v P q)) := Lib.hid (fun w' hb q hq => by rw [Nat.mul_one]; exact (HBq.out.below (HW.out.trans (hb.mono HW.out.size))).cells hq)
          clear HO6
          by_cases hjn : j < n
          · obtain ⟨ad, hAd, _, _⟩ := HX.out (show 0 < n by omega)
            subst hAd
            have HCA : Hid (∀ w', Below wr.heap.size wr w' → ∀ q, q < n → w'.cell? (ad.add (q * 1)) = some (u8v P q)) := Lib.hid (fun w' hb q hq => by rw [Nat.mul_one, ← HPx.out q hq]; exact (HX.out.below (HWq.out.trans ((HW.out.trans (hb.mono HW.out.size)).mono HWq.out.size))).cells hq)
            go_wp2_with fail
            refine wp_region_facts (B := wr.heap.size) (w0 := wr) [SF.is (.int .i64 ((j : Nat) : Int)), SF.is (.slice (some ad) (n) (c)), SF.is (.int .i64 ((n : Nat) : Int)), SF.is (.bool true), SF.is (.bool true), SF.is (.slice (some ad6) (M) (c6)), SF.is (.int .i64 ((j : Nat) : Int)), SF.is (.pointer (some (ad6.add (j * 1)))), SF.is (.int .u8 ((P j : Nat) : Int)), SF.is (.slice (some ad) (n) (c)), SF.is (.int .i64 ((j : Nat) : Int)), SF.is (.pointer (some (ad.add (j * 1)))), SF.is (.int .u8 ((P j : Nat) : Int)), SF.is (.bool false), SF.is (.bool false), SF.is (.bool false), SF.is (.int .i64 ((j : Nat) : Int)), SF.is (.slice (some ad) (n) (c)), SF.is (.int .i64 ((n : Nat) : Int)), SF.is (.bool false), SF.is (.bool false), SF.is undef, SF.is undef, SF.is undef, SF.is undef, SF.is undef, SF.is (.bool false), SF.is (.bool false)] (by kernel_rfl) (by kernel_rfl) rfl (Nat.le_refl _) (Below.refl _ _) ⟨?_, ?_, ?_, ?_, ?_, ?_, ?_, ?_, ?_, ?_, ?_, ?_, ?_, ?_, ?_, ?_, ?_, ?_, ?_, ?_, ?_, ?_, ?_, ?_, ?_, ?_, ?_, ?_, trivial⟩ ?_
            · exact (opOb_move _ rfl (.inl rfl) rfl)
            · exact (opOb_move _ rfl (.inl rfl) rfl)
            · exact opOb_len Tryd.underlying35 rfl rfl (OpK.tmp rfl)
            · exact opOb_bin rfl rfl rfl (OpK.tmp rfl) (OpK.tmp rfl) (fun w => lssI j n true (by rw [decide_eq_true_eq]; omega) w)
            · exact (opOb_move _ rfl (.inl rfl) rfl)
            · exact opOb_on 43 rfl rfl ((opOb_move _ rfl (.inl rfl) rfl))
            · exact opOb_on 43 rfl rfl ((opOb_move _ rfl (.inl rfl) rfl))
            · exact opOb_on 43 rfl rfl (opOb_idx rfl rfl (OpK.tmp rfl) (OpK.tmp rfl) (fun w => run_idxZ (z := 1) w Tryd.underlying35 (by kernel_rfl) ad6 (by omega)))
            · exact opOb_on 43 rfl rfl (opOb_ld rfl rfl (OpK.tmp rfl) (fun w' hb => run_load1 w' (ad6.add (j * 1)) _ .u8 _ (HC6.out w' hb j (by omega)) Tryd.underlying5))
            · exact opOb_on 43 rfl rfl ((opOb_move _ rfl (.inl rfl) rfl))
            · exact opOb_on 43 rfl rfl ((opOb_move _ rfl (.inl rfl) rfl))
            · exact opOb_on 43 rfl rfl (opOb_idx rfl rfl (OpK.tmp rfl) (OpK.tmp rfl) (fun w => run_idxZ (z := 1) w Tryd.underlying35 (by kernel_rfl) ad (by omega)))
            · exact opOb_on 43 rfl rfl (opOb_ld rfl rfl (OpK.tmp rfl) (fun w' hb => run_load1 w' (ad.add (j * 1)) _ .u8 _ (HCA.out w' hb j (by omega)) Tryd.underlying5))
            · exact opOb_on 43 rfl rfl (opOb_neSame .u8 ((P j : Nat) : Int) rfl rfl (OpK.tmp rfl) (OpK.tmp rfl))
            · exact opOb_pickT rfl rfl rfl (OpK.tmp rfl)
            · exact (opOb_move _ rfl (.inl rfl) rfl)
            · exact opOb_on 54 rfl rfl ((opOb_move _ rfl (.inl rfl) rfl))
            · exact opOb_on 54 rfl rfl ((opOb_move _ rfl (.inl rfl) rfl))
            · exact opOb_on 54 rfl rfl (opOb_len Tryd.underlying35 rfl rfl (OpK.tmp rfl))
            · exact opOb_on 54 rfl rfl (opOb_bin rfl rfl rfl (OpK.tmp rfl) (OpK.tmp rfl) (fun w => geqI j n false (by rw [decide_eq_false_iff_not]; omega) w))
            · exact opOb_on 54 rfl rfl ((opOb_move _ rfl (.inl rfl) rfl))
            · exact opOb_off 59 rfl rfl (by simp)
            · exact opOb_off 59 rfl rfl (by simp)
            · exact opOb_off 59 rfl rfl (by simp)
            · exact opOb_off 59 rfl rfl (by simp)
            · exact opOb_off 59 rfl rfl (by simp)
            · exact opOb_on 54 rfl rfl (opOb_pickF rfl rfl rfl (OpK.const))
            · exact opOb_pickF rfl rfl rfl (OpK.tmp rfl)
            · intro w' hb
              simp only [fin, SF.is, forall_eq]
              simp only [Act.put, List.setIfInBounds_toArray, List.set_cons_succ, List.set_cons_zero]
              have hend := Lib.hid (HW.out.trans (hb.mono HW.out.size))
              clear hb
              go_wp2_with fail
              go_roundw
              case rel => exact ⟨j + 1, by go_num, by omega, hend.out⟩
              case measure => simp [intOf]; omega
          · have HP0 := Lib.hid (HPz.out j hjn)
            go_wp2_with fail
            refine wp_region_facts (B := wr.heap.size) (w0 := wr) [SF.is (.int .i64 ((j : Nat) : Int)), SF.is (.slice (A) (n) (c)), SF.is (.int .i64 ((n : Nat) : Int)), SF.is (.bool false), SF.is (.bool false), SF.is undef, SF.is undef, SF.is undef, SF.is undef, SF.is undef, SF.is undef, SF.is undef, SF.is undef, SF.is undef, SF.is (.bool false), SF.is (.bool false), SF.is (.int .i64 ((j : Nat) : Int)), SF.is (.slice (A) (n) (c)), SF.is (.int .i64 ((n : Nat) : Int)), SF.is (.bool true), SF.is (.bool true), SF.is (.slice (some ad6) (M) (c6)), SF.is (.int .i64 ((j : Nat) : Int)), SF.is (.pointer (some (ad6.add (j * 1)))), SF.is (.int .u8 0), SF.is (.bool false), SF.is (.bool false), SF.is (.bool false)] (by kernel_rfl) (by kernel_rfl) rfl (Nat.le_refl _) (Below.refl _ _) ⟨?_, ?_, ?_, ?_, ?_, ?_, ?_, ?_, ?_, ?_, ?_, ?_, ?_, ?_, ?_, ?_, ?_, ?_, ?_, ?_, ?_, ?_, ?_, ?_, ?_, ?_, ?_, ?_, trivial⟩ ?_
            · exact (opOb_move _ rfl (.inl rfl) rfl)
            · exact (opOb_move _ rfl (.inl rfl) rfl)
            · exact opOb_len Tryd.underlying35 rfl rfl (OpK.tmp rfl)
            · exact opOb_bin rfl rfl rfl (OpK.tmp rfl) (OpK.tmp rfl) (fun w => lssI j n false (by rw [decide_eq_false_iff_not]; omega) w)
            · exact (opOb_move _ rfl (.inl rfl) rfl)
            · exact opOb_off 43 rfl rfl (by simp)
            · exact opOb_off 43 rfl rfl (by simp)
            · exact opOb_off 43 rfl rfl (by simp)
            · exact opOb_off 43 rfl rfl (by simp)
            · exact opOb_off 43 rfl rfl (by simp)
            · exact opOb_off 43 rfl rfl (by simp)
            · exact opOb_off 43 rfl rfl (by simp)
            · exact opOb_off 43 rfl rfl (by simp)
            · exact opOb_off 43 rfl rfl (by simp)
            · exact opOb_pickF rfl rfl rfl (OpK.const)
            · exact (opOb_move _ rfl (.inl rfl) rfl)
            · exact opOb_on 54 rfl rfl ((opOb_move _ rfl (.inl rfl) rfl))
            · exact opOb_on 54 rfl rfl ((opOb_move _ rfl (.inl rfl) rfl))
            · exact opOb_on 54 rfl rfl (opOb_len Tryd.underlying35 rfl rfl (OpK.tmp rfl))
            · exact opOb_on 54 rfl rfl (opOb_bin rfl rfl rfl (OpK.tmp rfl) (OpK.tmp rfl) (fun w => geqI j n true (by rw [decide_eq_true_eq]; omega) w))
            · exact opOb_on 54 rfl rfl ((opOb_move _ rfl (.inl rfl) rfl))
            · exact opOb_on 59 rfl rfl ((opOb_move _ rfl (.inl rfl) rfl))
            · exact opOb_on 59 rfl rfl ((opOb_move _ rfl (.inl rfl) rfl))
            · exact opOb_on 59 rfl rfl (opOb_idx rfl rfl (OpK.tmp rfl) (OpK.tmp rfl) (fun w => run_idxZ (z := 1) w Tryd.underlying35 (by kernel_rfl) ad6 (by omega)))
            · exact opOb_on 59 rfl rfl (opOb_ld rfl rfl (OpK.tmp rfl) (fun w' hb => run_load1 w' (ad6.add (j * 1)) _ .u8 _ ((HC6.out w' hb j (by omega)).trans (congrArg some HP0.out)) Tryd.underlying5))
            · exact opOb_on 59 rfl rfl (opOb_neSame .u8 0 rfl rfl (OpK.tmp rfl) OpK.const)
            · exact opOb_on 54 rfl rfl (opOb_pickT rfl rfl rfl (OpK.tmp rfl))
            · exact opOb_pickF rfl rfl rfl (OpK.tmp rfl)
            · intro w' hb
              simp only [fin, SF.is, forall_eq]
              simp only [Act.put, List.setIfInBounds_toArray, List.set_cons_succ, List.set_cons_zero]
              have hend := Lib.hid (HW.out.trans (hb.mono HW.out.size))
              clear hb
              go_wp2_with fail
              go_roundw
              case rel => exact ⟨j + 1, by go_num, by omega, hend.out⟩
              case measure => simp [intOf]; omega
        · obtain rfl : j = M := by omega
          obtain ⟨wz, hwz⟩ : ∃ wz, wz = wr := ⟨_, rfl⟩
          rw [← hwz] at HW ⊢
          clear hwz
          have HBz := Lib.hid ((HBq.out.below HW.out).more HW.out.size)
          have HLz := Lib.hid ((HLq.out.below HW.out).more HW.out.size)
          have HYz := Lib.hid ((HYq.out.below HW.out).more HW.out.size)
          have HWz := Lib.hid (HWq.out.trans (HW.out.mono HWq.out.size))
          clear HBq HLq HYq HWq HW
          go_wp2_with (first
            | (refine wpList_bs0L rfl 1 rfl run_bs0_U (HS.nil wz) ?_; intro b67 w1q hb67 hs ho; have HS1q := Lib.hid hs; have HO1q := Lib.hid ho; clear hs ho)
            | (at_builtin; refine wpList_app0L rfl (.tmp 67) (.tmp 68) 35 wz.heap.size (z := .int .u8 0) (k := 1) (bytes := 1) (by kernel_rfl) Tryd.underlying35 (by rfl) (by omega) rfl rfl HO1q.out rfl (by rw [Nat.mul_one]; exact HBz.out.below HS1q.out.bel) (fun _ _ => rfl) ⟨by omega, by omega⟩ (by have := HO1q.out.base_le _ rfl; omega) HS1q.out ?_; intro A69 c69 w2q ho hs; have HO2q := Lib.hid ho; have HS2q := Lib.hid hs; clear ho hs)
            | (at_builtin; refine wpList_appZ _ (.tmp 69) (.tmp 70) 35 wz.heap.size (e := 5) (z := .int .u8 0) (k := 1) (bytes := 1) (by kernel_rfl) Tryd.underlying35 (by rfl) (by omega) rfl rfl (j + m) (u8v (catN j P y)) rfl rfl HO2q.out (by rw [Nat.mul_one]; exact HYz.out.below HS2q.out.bel) (fun _ _ => rfl) (by omega) cat_my ⟨by omega, by omega⟩ HS2q.out.size ?_; intro A71 c71 w3q ho hg _; have HO3q := Lib.hid ho; have HS3q := Lib.hid ((HS2q.out).appOld hg (fun ad e => (HO2q.out.base_le ad e).1) ⟨Nat.le_refl _, (fun _ h => (by cases h))⟩); clear ho hg)
            | (go_at_call 20; have hx : Tok 2 := (by assumption); refine (pack_look (j + m) c71 A71 (catN j P y) _ (by have h := HO3q.out.rd; rwa [Nat.mul_one] at h) HO3q.out.cap (by omega)).mono ?_; clear hx tok2; rintro e w4q ⟨A72, c72, rfl, ho, hb⟩; rw [HK.out]; rw [HK.out] at ho; have HM4 := Lib.hid (ho.rd.congr HKx.out); have HS4q := Lib.hid (HS3q.out.below hb); have HW4 := Lib.hid (HS.nil w4q); clear ho hb; have tok3 := Tok.mk 3)
            | (refine wpList_bs0L rfl 32 rfl run_bs0_R HW4.out ?_; intro b74 w5q hb74 hs ho; have HS5q := Lib.hid hs; have HO5q := Lib.hid ho; clear hs ho)
            | (at_builtin; refine wpList_app0L rfl (.tmp 74) (.tmp 75) 24 w4q.heap.size (z := .agg (Array.replicate 32 (.int .u8 0))) (k := 32) (bytes := 32) (by kernel_rfl) Tryd.underlying24 (by rfl) (by omega) rfl rfl HO5q.out rfl (HLz.out.below (HS4q.out.bel.trans (HS5q.out.bel.mono HS4q.out.size))) (fun _ _ => rfl) ⟨by omega, by omega⟩ (by have := HO5q.out.base_le _ rfl; omega) HS5q.out ?_; intro A76 c76 w6q ho hs; have HO6q := Lib.hid ho; have HS6q := Lib.hid hs; clear ho hs)
            | (go_at_call 20; have hx : Tok 3 := (by assumption); refine (pack_look m c2 B y _ ((HYz.out.below (HS4q.out.bel.trans (HS6q.out.bel.mono HS4q.out.size))).more (HS4q.out.bel.trans (HS6q.out.bel.mono HS4q.out.size)).size) hmc (by omega)).mono ?_; clear hx tok3; rintro e w7q ⟨A78, c78, rfl, ho, hb⟩; have HO7q := Lib.hid (HO6q.out.all hb); have HR7 := Lib.hid ho.rd; have HS7q := Lib.hid (HS6q.out.below hb); clear ho hb)
            | (at_builtin; refine wpList_appZ _ (.tmp 76) (.tmp 78) 24 w4q.heap.size (e := 23) (z := .agg (Array.replicate 32 (.int .u8 0))) (k := 32) (bytes := 32) (by kernel_rfl) Tryd.underlying24 (by rfl) (by omega) rfl rfl (K) (u8v (catN (i * 32) P (padN m y))) rfl rfl HO7q.out HR7.out (fun _ _ => rfl) HKe.out cat_ry ⟨by omega, by omega⟩ HS7q.out.size ?_; intro A79 c79 w8q ho hg _; have HO8q := Lib.hid ho; have HS8q := Lib.hid ((HS7q.out).appOld hg (fun ad e => (HO7q.out.base_le ad e).1) ⟨Nat.le_refl _, (fun _ h => (by cases h))⟩); clear ho hg)
            | (go_at_call 21; refine (sameR_any K c72 c79 A72 A79 (catN (i * 32) P (padN m y)) _ ((HM4.out.below HS8q.out.bel).more HS8q.out.size) HO8q.out.rd (by omega)).mono ?_; rintro e w9q ⟨rfl, hb⟩; have HS9q := Lib.hid (HS8q.out.below hb); clear hb))
          go_ret
          exact ⟨rfl, HWz.out.trans ((HS4q.out.bel.trans (HS9q.out.bel.mono HS4q.out.size)).mono HWz.out.size)⟩
end Go.Proofs.YtjmbgdldnnmipaaDoor
/- What the bound of the second form gives. -/
namespace Go.Proofs.YtjmbgdldnnmipaaDoor.bulks
theorem one_le {H : Type} (d : DataW H) : 1 ≤ Rows.uptoBulk d := by
  cases d with
  | lit l => cases l <;> simp [Rows.uptoBulk]
  | nil => simp [Rows.uptoBulk]
  | ptr d => simp [Rows.uptoBulk]
  | slice elems spare => simp [Rows.uptoBulk]
  | agg parts => simp [Rows.uptoBulk]
  | iface t d => simp [Rows.uptoBulk]
  | map entries => simp [Rows.uptoBulk]
  | held h => simp [Rows.uptoBulk]
theorem part_le {H : Type} {d : DataW H} {l : List (DataW H)} (h : d ∈ l) : Rows.uptoBulk d ≤ Rows.uptoBulkAll l := by
  induction l with
  | nil => cases h
  | cons x r ih =>
    simp only [Rows.uptoBulkAll]
    cases List.mem_cons.1 h with
    | inl e => subst e; omega
    | inr e => have := ih e; omega
theorem append {H : Type} (l r : List (DataW H)) : Rows.uptoBulkAll (l ++ r) = Rows.uptoBulkAll l + Rows.uptoBulkAll r := by
  induction l with
  | nil => simp [Rows.uptoBulkAll]
  | cons x l ih => simp only [List.cons_append, Rows.uptoBulkAll, ih]; omega
theorem length_le {H : Type} (l : List (DataW H)) : l.length ≤ Rows.uptoBulkAll l := by
  induction l with
  | nil => simp [Rows.uptoBulkAll]
  | cons x r ih => have := one_le x; simp only [Rows.uptoBulkAll, List.length_cons]; omega
theorem slice_le {H : Type} (elems spare : List (DataW H)) : elems.length + spare.length + 1 ≤ Rows.uptoBulk (.slice elems spare) := by
  have h1 := length_le elems
  have h2 := length_le spare
  simp only [Rows.uptoBulk]
  omega
theorem bound {H : Type} {l : List (DataW H)} (hk : Rows.uptoSmall H l = true) : Rows.uptoBulkAll l ≤ 1048576 := by
  simpa [Rows.uptoSmall] using hk
end Go.Proofs.YtjmbgdldnnmipaaDoor.bulks
