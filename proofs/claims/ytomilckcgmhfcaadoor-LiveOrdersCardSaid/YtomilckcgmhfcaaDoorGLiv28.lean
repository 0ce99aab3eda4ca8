/- A part of what the proofs stand on: StRoot2, StRoot3, StRootAll, StCongr. -/
import Derived.Test.YtomilckcgmhfcaaDoorGLiv1
import Derived.Test.YtomilckcgmhfcaaDoorGLiv27
import Derived.Test.YtomilckcgmhfcaaDoorGLiv24
/- state.rootState2: chunks of a state, gathered. (Printed by a program of mine.) -/
namespace Go.Proofs.YtomilckcgmhfcaaDoor
set_option maxRecDepth 40000
open Go.RowKit
namespace StRoot2
theorem er_mix (vs : Array Value) (w : World) : (callFunc 31 vs).run Tryd.prog w = .ok (.enter 31 vs) w := by kernel_rfl
theorem er_put (vs : Array Value) (w : World) : (callFunc 53 vs).run Tryd.prog w = .ok (.enter 53 vs) w := by kernel_rfl
theorem val_chunk (s : StV) : lmixN (treeN (dep 65536) s.nV (valX s.V)) s.nV = stC s 11 := by
 show _ = lmixN (treeN (dep 65536) (lvC 0 s.nV) (lvX s 0)) s.nV
 rw [show lvC 0 s.nV = s.nV by unfold lvC lvG; simp]; rfl
theorem num_chunk1 {s : StV} (h : RightF s) : lmixN (treeN (dep ((65536 + 3) / 4)) (nch (8 * s.nB)) (padN (8 * s.nB) (LiveSmall.leS fun i => nat (s.Bal i)))) s.nB = stC s 12 := by
 show _ = lmixN (treeN (dep 16384) (lvC 1 s.nV) (lvX s 1)) s.nV
 have h1 := h.nB
 rw [show nch (8 * s.nB) = lvC 1 s.nV by unfold nch lvC lvG; simp; omega]
 conv => lhs; arg 2; rw [h1]
 rfl
theorem pack_chunk2 {s : StV} (h : RightF s) : lmixN (treeN (dep 2048) (nch s.nP) (padN s.nP (b8 s.Prv))) s.nP = stC s 15 := by
 show _ = lmixN (treeN (dep 2048) (lvC 2 s.nV) (lvX s 2)) s.nV
 have h1 := h.nP
 rw [show nch s.nP = lvC 2 s.nV by unfold nch lvC lvG; simp; omega]
 conv => lhs; arg 2; rw [h1]
 rfl
theorem pack_chunk3 {s : StV} (h : RightF s) : lmixN (treeN (dep 2048) (nch s.nC) (padN s.nC (b8 s.Cur))) s.nC = stC s 16 := by
 show _ = lmixN (treeN (dep 2048) (lvC 3 s.nV) (lvX s 3)) s.nV
 have h1 := h.nC
 rw [show nch s.nC = lvC 3 s.nV by unfold nch lvC lvG; simp; omega]
 conv => lhs; arg 2; rw [h1]
 rfl
end StRoot2
open StRoot2 in
set_option maxHeartbeats 40000000 in
theorem state_root2 (w w0 : World) (B base g xb : Nat) (s : StV) (hc : RC w B base g xb s) (hz : RZ w B base g s 10 w0) :
  Calls Tryd.prog 38 #[.pointer (some ⟨g, 0, none⟩), .pointer (some ⟨xb, 0, none⟩)] w0 fun e w' => e = .returned (.tuple #[]) ∧ RZ w B base g s 21 w' := by
 have HC := Lib.hid hc
 have HZ0 := Lib.hid hz
 have tk1 : Tok 1 := Tok.mk 1
 have hnV : s.nV ≤ 65536 := HC.out.right.n
 have tk2 : Tok 2 := Tok.mk 2
 have tk3 : Tok 3 := Tok.mk 3
 have tk4 : Tok 4 := Tok.mk 4
 have tk5 : Tok 5 := Tok.mk 5
 have tk6 : Tok 6 := Tok.mk 6
 have tk7 : Tok 7 := Tok.mk 7
 have HB723 := Lib.hid (st_bytes HC.out.ok.sc 723 (8 * 32) (by kernel_rfl))
 have tk8 : Tok 8 := Tok.mk 8
 have tk9 : Tok 9 := Tok.mk 9
 have HW979 := Lib.hid (st_words HC.out.ok.sc 979 8 (by kernel_rfl))
 have tk10 : Tok 10 := Tok.mk 10
 have tk11 : Tok 11 := Tok.mk 11
 have tk12 : Tok 12 := Tok.mk 12
 have tk13 : Tok 13 := Tok.mk 13
 have tk14 : Tok 14 := Tok.mk 14
 have tk15 : Tok 15 := Tok.mk 15
 have tk16 : Tok 16 := Tok.mk 16
 have tk17 : Tok 17 := Tok.mk 17
 have HBt : Hid (∀ i, i < 4 → s.F (989 + i) = .bool (bln (s.F (989 + i)))) := Lib.hid (fun i hi => by rcases (show i = 0 ∨ i = 1 ∨ i = 2 ∨ i = 3 by omega) with rfl | rfl | rfl | rfl <;> exact HC.out.ok.sc.bool _ (by kernel_rfl))
 have tk18 : Tok 18 := Tok.mk 18
 have tk19 : Tok 19 := Tok.mk 19
 have HC993 := Lib.hid (HC.out.ok.sc.at_ 993 33 42 (by kernel_rfl) (leaf_out (n := 33) Tryd.underlying42 (by kernel_rfl)))
 have tk20 : Tok 20 := Tok.mk 20
 have tk21 : Tok 21 := Tok.mk 21
 have HC1026 := Lib.hid (HC.out.ok.sc.at_ 1026 33 42 (by kernel_rfl) (leaf_out (n := 33) Tryd.underlying42 (by kernel_rfl)))
 have tk22 : Tok 22 := Tok.mk 22
 have tk23 : Tok 23 := Tok.mk 23
 have HC1059 := Lib.hid (HC.out.ok.sc.at_ 1059 33 42 (by kernel_rfl) (leaf_out (n := 33) Tryd.underlying42 (by kernel_rfl)))
 have tk24 : Tok 24 := Tok.mk 24
 have tk25 : Tok 25 := Tok.mk 25
 clear hc hz
 go_enter Tryd.func38, Tryd.ntmps38
 go_wp2_with (first
  | ((with_reducible refine at_l ?_); refine wpList_as rfl 23 rfl (.int .u64 ((nat (s.F 720) : Nat) : Int)) ?_ ?_; (· exact ex_ld1 .u64 rfl rfl Tryd.underlying22 ((HC.out.cell HZ0.out.bel 720 (by omega)).trans (congrArg some (HC.out.ok.sc.u64 720 (by kernel_rfl)).1))))
  | (go_at_call 54; clear tk1; refine (RZ.u64 HC.out HZ0.out (by omega) (nat (s.F 720)) (fun _ _ => rfl)).mono ?_; rintro e w1 ⟨rfl, hz⟩; have HZ1 := Lib.hid hz; clear hz)
  | ((with_reducible refine at_l ?_); refine wpList_as rfl 28 rfl (.slice s.aV s.nV s.cV) ?_ ?_; (· exact ex_ldSl rfl rfl Tryd.underlying36 (HC.out.cell HZ1.out.bel 721 (by omega)) HC.out.ok.f11)))
 go_loopw [4, 30] (fun u i wr => ∃ (k : Nat) (A : Option Addr) (c : Nat), u = .slice A k c ∧ i = .int .i64 (k : Int) ∧ k ≤ s.nV ∧ OwnZ wr w1.heap.size 24 32 A k c (u8v (valX s.V)) ∧ Below w1.heap.size w1 wr) (fun _ i _ => s.nV - (intOf i).toNat)
 case atStart => exact ⟨0, none, 0, rfl, rfl, Nat.zero_le _, OwnZ.nil _ _ _ _ _, Below.refl _ _⟩
 case round =>
  obtain ⟨k, A, c, rfl, rfl, hk, ho, hb⟩ := hrel
  have HO := Lib.hid ho
  have HB := Lib.hid hb
  have hsz := hb.size
  clear ho hb
  by_cases h1 : k < s.nV
  ·obtain ⟨ad, hA, _, _⟩ := (HC.out.ok.rV : Rd w B s.aV (s.nV * 86) s.V) (by omega)
   have HCE := Lib.hid (show ∀ q, q < 86 → wr.cell? ((ad.add (k * 86)).add q) = some ((fun q => s.V (k * 86 + q)) q) from fun q hq => by
    have h := (HC.out.ok' (thnB HZ1.out.bel HB.out (Nat.le_trans HC.out.hBw HZ1.out.bel.size))).rV.cell_' hA (k := k * 86 + q) (by omega)
    rw [add_add]; exact h)
   have HSE := Lib.hid (HC.out.ok.scV k h1)
   have H1E := Lib.hid (show ∀ q, q < 86 → (s.V (k * 86 + q)).oneCell' = true from fun q hq => StCopy.one_list HC.out.ok.scV (by kernel_rfl) _ (by omega))
   rw [hA]
   clear hA
   go_wp2_with (first
    | ((with_reducible refine at_l ?_); refine wpList_as rfl 32 rfl (.pointer (some (ad.add (k * 86)))) ?_ ?_; (· exact ex_idx rfl rfl rfl (fun w => run_idxZ (z := 86) w Tryd.underlying36 (by kernel_rfl) ad h1) _))
    | ((with_reducible refine at_l ?_); refine wpList_load_rd rfl 66 (.tmp 32) rfl 86 _ Tryd.underlying66 rfl (by kernel_rfl) (ad.add (k * 86)) rfl (fun q => s.V (k * 86 + q)) HCE.out ?_)
    | (refine wpList_new rfl rfl 66 66 7 (.tmp 33) rfl rfl rfl 86 (zeroOf Tryd.prog 66) (by kernel_rfl) (by kernel_rfl) (arr 86 (fun q => s.V (k * 86 + q))) rfl rfl (size_arr _ _) (by kernel_rfl) (fun q hq => ⟨_, arr_at _ _ _ hq, H1E.out q hq⟩) (fun q => s.V (k * 86 + q)) (fun q hq => arr_at _ _ _ hq) ?_; intro w6 hr6 hb6; have HR6 := Lib.hid hr6; have HB6 := Lib.hid hb6; clear hr6 hb6; simp only [pcX])
    | ((with_reducible refine at_l ?_); refine wpList_load_rd rfl 66 (.tmp 7) rfl 86 _ Tryd.underlying66 rfl (by kernel_rfl) ⟨wr.heap.size, 0, none⟩ rfl (fun q => s.V (k * 86 + q)) (fun q hq => by rw [add_lit0]; exact HR6.out.cell hq) ?_)
    | (go_at_call 60; refine (valid_look (fun q => s.V (k * 86 + q)) HSE.out _ (HC.out.sha' (thnB HZ1.out.bel (thnB HB.out HB6.out hsz) (Nat.le_trans HC.out.hBw HZ1.out.bel.size)))).mono ?_; rintro e w7 ⟨rfl, hb⟩; have HB7 := Lib.hid (thnB HB6.out hb HB6.out.size); clear hb)
    | ((with_reducible refine at_l ?_); refine wpList_bs1 rfl Tryd.underlying32 (z := 32) (by kernel_rfl) (by omega) (by omega) (v0 := .agg (Array.replicate 32 (.int .u8 0))) (by kernel_rfl) _ rfl (u8v (validN fun q => s.V (k * 86 + q))) rfl (HS.nil _) ?_; intro bS w8 hbS hcS hs; have HS8 := Lib.hid hs; have HB8 := Lib.hid (thnB HB7.out (hs.out (by simp; omega)) HB7.out.size); clear hs)
    | (at_builtin; refine wpList_appZ _ (.tmp 34) (.tmp 37) 32 w1.heap.size (e := 24) (z := .agg (Array.replicate 32 (.int .u8 0))) (k := 32) (bytes := 32) (by kernel_rfl) Tryd.underlying32 (by rfl) (by omega) rfl rfl (k + 1) (u8v (valX s.V)) rfl rfl (HO.out.all HB8.out) (Rd.of_row (n := 1 * 32) (HS8.out.row 0 rfl) (Nat.le_refl _) (HS8.out.lt 0 rfl)) (fun _ _ => rfl) rfl (app_root (valX s.V) k (validN fun q => s.V (k * 86 + q)) (fun q hq => by unfold valX; rw [show (k * 32 + q) / 32 = k by omega, show (k * 32 + q) % 32 = q by omega])) ⟨by omega, by omega⟩ (Nat.le_trans hsz HB8.out.size) ?_; intro A' c' w9 ho9 hg9 ha9; have HO9 := Lib.hid ho9; have HG9 := Lib.hid hg9; clear ho9 hg9 ha9))
   go_roundw
   case rel => exact ⟨k + 1, A', c', rfl, by go_num, by omega, HO9.out, below_app (thnB HB.out HB8.out hsz) HG9.out (Nat.le_trans hsz HB8.out.size) (fun ad e => (HO.out.base_le ad e).1)⟩
   case measure => simp [intOf]; omega
  ·obtain rfl : s.nV = k := by omega
   have HVR := Lib.hid HO.out.rd
   have hcap := HO.out.cap
   obtain ⟨w2, hw2⟩ : ∃ w2 : World, w2 = wr := ⟨_, rfl⟩
   subst hw2
   have HZ2 := Lib.hid (HZ1.out.loc HC.out HB.out)
   clear HO HB h1 hsz
   obtain ⟨XV, hXV⟩ : ∃ X, X = treeN (dep 65536) s.nV (valX s.V) := ⟨_, rfl⟩
   have HXV := Lib.hid hXV
   have HXlV : Hid (∀ i, XV i < 256) := Lib.hid (by rw [hXV]; exact treeN_lt (valX_lt _) _ _)
   clear hXV
   obtain ⟨XB, hXB⟩ : ∃ X, X = treeN (dep ((65536 + 3) / 4)) (nch (8 * s.nB)) (padN (8 * s.nB) (LiveSmall.leS fun i => nat (s.Bal i))) := ⟨_, rfl⟩
   have HEB := Lib.hid hXB
   have HXlB : Hid (∀ i, XB i < 256) := Lib.hid (by rw [hXB]; exact treeN_lt (padN_lt fun _ => leB_lt _ _) _ _)
   have HXB : Hid (lmixN XB s.nB = stC s 12) := Lib.hid (by rw [hXB]; exact num_chunk1 HC.out.right)
   clear hXB
   have hcntB : s.nB ≤ 65536 := by have h1 := HC.out.right.nB; have h2 := HC.out.right.n; omega
   go_wp2_with (first
    | (go_at_call 25; clear tk2; refine (tree_ok s.nV c A (valX s.V) 65536 _ HVR.out (valX_lt _) hcap (by omega) hnV (HC.out.sha' HZ2.out.bel)).mono ?_; rintro e w3 ⟨rfl, hb⟩; rw [← HXV.out]; have HZ3 := Lib.hid (HZ2.out.loc HC.out hb); clear hb)
    | (clear tk3; refine wpList_new rfl rfl 24 24 8 (.tmp 46) rfl rfl rfl 32 (Array.replicate 32 (.int .u8 0)) (by kernel_rfl) (by rfl) (arr 32 (u8v XV)) rfl rfl (size_arr _ _) (by kernel_rfl) (fun q hq => ⟨_, arr_at _ _ _ hq, rfl⟩) (u8v XV) (fun q hq => arr_at _ _ _ hq) ?_; intro w4 hr hb; have HQ4 := Lib.hid hr; have HZ4 := Lib.hid (HZ3.out.loc HC.out hb); clear hr hb; simp only [pcX])
    | ((with_reducible refine at_l ?_); refine wpList_load_rd rfl 24 (.tmp 8) rfl 32 _ Tryd.underlying24 rfl (by kernel_rfl) ⟨w3.heap.size, 0, none⟩ rfl (u8v XV) (fun q hq => by rw [add_lit0]; exact HQ4.out.cell hq) ?_)
    | ((with_reducible refine at_l ?_); refine wpList_as rfl 52 rfl (.int .u64 (s.nV : Int)) ?_ ?_; (· exact ex_cnv rfl rfl (fun w => by simp [go_sem, IntKind.wrap, IntKind.bits, IntKind.signed]; omega) _))
    | (go_at_call 31; clear tk4; refine (mix_look XV HXlV.out s.nV _ (HC.out.sha' HZ4.out.bel)).mono ?_; rintro e w5 ⟨rfl, hb⟩; have HZ5 := Lib.hid (HZ4.out.loc HC.out hb); clear hb)
    | (go_at_call 53; clear tk5; refine (RZ.put HC.out HZ5.out (by omega) (lmixN XV s.nV) (fun q _ => by rw [HXV.out]; exact congrFun (val_chunk s) q)).mono ?_; rintro e w6 ⟨rfl, hz⟩; have HZ6 := Lib.hid hz; clear hz)
    | ((with_reducible refine at_l ?_); refine wpList_as rfl 59 rfl (.slice s.aB s.nB s.cB) ?_ ?_; (· exact ex_ldSl rfl rfl Tryd.underlying37 (HC.out.cell HZ6.out.bel 722 (by omega)) HC.out.ok.f12))
    | ((with_reducible refine at_l ?_); refine wpList_as rfl 69 rfl (.slice s.aB s.nB s.cB) ?_ ?_; (· exact ex_ldSl rfl rfl Tryd.underlying37 (HC.out.cell HZ6.out.bel 722 (by omega)) HC.out.ok.f12))
    | (go_at_call 61; clear tk6; refine (numbers_look s.nB s.cB 65536 s.aB (fun i => nat (s.Bal i)) _ (((HC.out.ok' HZ6.out.bel).rB.more (Nat.le_trans HC.out.hBw HZ6.out.bel.size)).congr (fun i hi => (HC.out.ok.scB i hi).1)) HC.out.ok.lB.1 (by omega) (by omega) (by omega) (HC.out.sha' HZ6.out.bel)).mono ?_; rintro e w7 ⟨rfl, hb⟩; rw [← HEB.out]; have HZ7 := Lib.hid (HZ6.out.loc HC.out hb); clear hb)
    | (clear tk7; refine wpList_new rfl rfl 24 24 10 (.tmp 71) rfl rfl rfl 32 (Array.replicate 32 (.int .u8 0)) (by kernel_rfl) (by rfl) (arr 32 (u8v XB)) rfl rfl (size_arr _ _) (by kernel_rfl) (fun q hq => ⟨_, arr_at _ _ _ hq, rfl⟩) (u8v XB) (fun q hq => arr_at _ _ _ hq) ?_; intro w8 hr hb; have HQ8 := Lib.hid hr; have HZ8 := Lib.hid (HZ7.out.loc HC.out hb); clear hr hb; simp only [pcX]))
   refine wp_region_factsS (l := [_, _, _, _, _, _, _, _, _, _]) (tl := []) (B := w8.heap.size) (w0 := w8) [SF.is (.pointer (some ⟨g, 0, none⟩)), SF.is (rootV XB), SF.is (.pointer (some ⟨xb, 0, none⟩)), SF.is (.pointer (some ⟨xb, 0, none⟩)), SF.is (.pointer (some ⟨xb, 722, none⟩)), SF.is (.slice (s.aB) (s.nB) (s.cB)), SF.is (.int .i64 ((s.nB : Nat) : Int)), SF.is (.int .u64 ((s.nB : Nat) : Int)), SF.is (rootV (lmixN XB s.nB)), SF.is (.int .i64 0)] (by kernel_rfl) (by kernel_rfl) rfl (Nat.le_refl _) (Below.refl _ _) ⟨?_, ?_, ?_, ?_, ?_, ?_, ?_, ?_, ?_, ?_, trivial⟩ ?_
   ·exact (opOb_move _ rfl (.inl rfl) rfl)
   ·exact opOb_ld rfl rfl (OpK.tmp rfl) (fun w' hb => run_loadAt_part w' w7.heap.size 0 32 24 _ (u8v XB) (fun i hi => by rw [Nat.zero_add]; exact (row_below HQ8.out hb HQ8.out.lt).cell hi) Tryd.underlying24 rfl (by kernel_rfl))
   ·exact (opOb_move _ rfl (.inl rfl) rfl)
   ·exact opOb_nil _ rfl rfl (OpK.tmp rfl)
   ·exact opOb_fld rfl rfl (OpK.tmp rfl) (fun w => by simp [go_sem])
   ·exact opOb_ld rfl rfl (OpK.tmp rfl) (fun w' hb => PickDraw.run_ldSl w' _ _ _ _ ((HC.out.cell (HZ8.out.loc HC.out hb).bel 722 (by omega)).trans (congrArg some HC.out.ok.f12)) Tryd.underlying37)
   ·exact opOb_len Tryd.underlying37 rfl rfl (OpK.tmp rfl)
   ·exact opOb_cnv rfl rfl (OpK.tmp rfl) (fun w => by simp [go_sem, IntKind.wrap, IntKind.bits, IntKind.signed]; omega)
   ·exact opOb_fn2 er_mix rfl rfl (OpK.tmp rfl) (OpK.tmp rfl) (fun w' hb => (mix_look XB HXlB.out s.nB w' (HC.out.sha' (HZ8.out.loc HC.out hb).bel)).mono fun e w2 ⟨he, hb2⟩ => ⟨_, he, rfl, hb2⟩)
   ·exact (opOb_move _ rfl (.inl rfl) rfl)
   ·intro w' hb
    simp only [fin, SF.is, forall_eq]
    simp only [pcX]
    have HZ9 := Lib.hid (HZ8.out.loc HC.out hb)
    clear hb
    refine wp_fn er_put #[.pointer (some ⟨g, 0, none⟩), rootV (lmixN XB s.nB), .int .i64 0] rfl rfl ((RZ.put HC.out HZ9.out (by omega) (lmixN XB s.nB) (fun q _ => by rw [HXB.out])).mono ?_)
    rintro e w10 ⟨rfl, hz⟩
    refine ⟨_, rfl, ?_⟩
    have HZ10 := Lib.hid hz
    clear hz
    simp only [seqWp, Act.put]
    go_wp2_with (first
     | ((with_reducible refine at_l ?_); refine wpList_allocL rfl 90 12 rfl rfl (HS.nil w10) _ zero_hash 2 (hashF none 0 0) (size_arr _ _) (fun i hi => arr_at _ _ i hi) ?_; intro b12 w11 hb12 hc12 hs; have HL12 := Lib.hid (LH.start (hs.row 0 rfl) (hs.out (by simp; omega)) hb12 (byF s.F 723)); have HZ11 := Lib.hid (HZ10.out.loc HC.out (hs.out (by simp; omega))); clear hs)
     | ((with_reducible refine at_l ?_); refine wpList_load_part rfl 31 (.tmp 86) rfl xb 723 256 (u8v (byF s.F 723)) rfl _ (fun i hi => (HC.out.cell HZ11.out.bel (723 + i) (by omega)).trans (congrArg some (HB723.out i hi))) Tryd.underlying31 rfl (by kernel_rfl) _ rfl ?_))
    go_loopw [88] (fun i wr => ∃ j : Nat, i = .int .i64 (j : Int) ∧ j ≤ 8 ∧ LH w10 b12 (byF s.F 723) j wr) (fun i _ => 8 - (intOf i).toNat)
    case atStart => exact ⟨0, rfl, by omega, HL12.out⟩
    case round =>
     clear HL12
     obtain ⟨j, rfl, hj, hl⟩ := hrel
     have HL := Lib.hid hl
     clear hl
     by_cases hj8 : j < 8
     ·go_wp2_with (first
       | ((with_reducible refine at_l ?_); refine wpList_as rfl 90 rfl (rootV (fun q => byF s.F 723 (j * 32 + q))) ?_ ?_; (· exact ex_index rfl rfl rfl (fun w => run_indexA w Tryd.underlying31 (by kernel_rfl) Tryd.underlying24 rfl (u8v (byF s.F 723)) j hj8 (by omega)) _))
       | (refine wpList_new rfl rfl 24 24 14 (.tmp 90) rfl rfl rfl 32 (Array.replicate 32 (.int .u8 0)) (by kernel_rfl) (by rfl) (arr 32 (u8v (fun q => byF s.F 723 (j * 32 + q)))) rfl rfl (size_arr _ _) (by kernel_rfl) (fun q hq => ⟨_, arr_at _ _ _ hq, rfl⟩) (u8v (fun q => byF s.F 723 (j * 32 + q))) (fun q hq => arr_at _ _ _ hq) ?_; intro w7 hr7 hb7; have HR7 := Lib.hid hr7; have HL7 := Lib.hid (HL.out.loc hb7); clear hr7 hb7; simp only [pcX])
       | ((with_reducible refine at_l ?_); refine wpList_load_rd rfl 24 (.tmp 14) rfl 32 _ Tryd.underlying24 rfl (by kernel_rfl) ⟨wr.heap.size, 0, none⟩ rfl (u8v (fun q => byF s.F 723 (j * 32 + q))) (fun q hq => by rw [add_lit0]; exact HR7.out.cell hq) ?_)
       | (go_at_call 53; refine (LH.put HL7.out (by omega) (fun q => byF s.F 723 (j * 32 + q)) (fun _ _ => rfl)).mono ?_; rintro e w8 ⟨rfl, hl⟩; have HL8 := Lib.hid hl; clear hl))
      go_roundw
      case rel => exact ⟨j + 1, by go_num, by omega, HL8.out⟩
      case measure => simp [intOf]; omega
     ·obtain rfl : j = 8 := by omega
      obtain ⟨XP, hXP⟩ : ∃ X, X = treeN (dep 2048) (nch s.nP) (padN s.nP (b8 s.Prv)) := ⟨_, rfl⟩
      have HEP := Lib.hid hXP
      have HXlP : Hid (∀ i, XP i < 256) := Lib.hid (by rw [hXP]; exact treeN_lt (padN_lt (b8_lt _)) _ _)
      have HXP : Hid (lmixN XP s.nP = stC s 15) := Lib.hid (by rw [hXP]; exact pack_chunk2 HC.out.right)
      clear hXP
      have hcntP : s.nP ≤ 65536 := by have h1 := HC.out.right.nP; have h2 := HC.out.right.n; omega
      go_wp2_with (first
       | (go_at_call 40; clear tk8; refine (LH.done HL.out (HC.out.sha' HZ10.out.bel) (byF_lt _ _) (by omega) (by omega)).mono ?_; rintro e w12 ⟨rfl, hb⟩; have HZ12 := Lib.hid (HZ10.out.loc HC.out hb); clear hb)
       | (go_at_call 53; clear tk9; refine (RZ.put HC.out HZ12.out (by omega) (treeN (dep 8) 8 (byF s.F 723)) (fun _ _ => rfl)).mono ?_; rintro e w13 ⟨rfl, hz⟩; have HZ13 := Lib.hid hz; clear hz)
       | ((with_reducible refine at_l ?_); refine wpList_as rfl 103 rfl (.slice (some ⟨xb, 979, none⟩) 8 8) ?_ ?_; (· exact ex_slice rfl rfl rfl rfl (fun w => cut_arr Tryd.underlying38 1 (by kernel_rfl) none none xb 979 8 0 8 (by omega) (by omega) rfl rfl w) _))
       | (go_at_call 61; clear tk10; refine (numbers_look 8 8 8 (some ⟨xb, 979, none⟩) (fun q => nat (at_ s.F 979 q)) _ (HC.out.rd HZ13.out.bel 979 8 (u64v fun q => nat (at_ s.F 979 q)) (by omega) HW979.out) (by omega) (by omega) (by omega) (by omega) (HC.out.sha' HZ13.out.bel)).mono ?_; rintro e w14 ⟨rfl, hb⟩; have HZ14 := Lib.hid (HZ13.out.loc HC.out hb); clear hb)
       | (go_at_call 53; clear tk11; refine (RZ.put HC.out HZ14.out (by omega) (treeN (dep 2) 2 (numX 8 (at_ s.F 979))) (fun _ _ => rfl)).mono ?_; rintro e w15 ⟨rfl, hz⟩; have HZ15 := Lib.hid hz; clear hz)
       | ((with_reducible refine at_l ?_); refine wpList_as rfl 112 rfl (.slice s.aP s.nP s.cP) ?_ ?_; (· exact ex_ldSl rfl rfl Tryd.underlying39 (HC.out.cell HZ15.out.bel 987 (by omega)) HC.out.ok.f15))
       | (go_at_call 62; clear tk12; refine (pack_look s.nP s.cP s.aP (b8 s.Prv) _ (((HC.out.ok' HZ15.out.bel).rP.more (Nat.le_trans HC.out.hBw HZ15.out.bel.size)).congr (fun i hi => b8_at (HC.out.ok.scP i hi))) HC.out.ok.lP.1 (by omega)).mono ?_; rintro e w16 ⟨AP, cP, rfl, ho, hb⟩; have HOP := Lib.hid ho; have HZ16 := Lib.hid (HZ15.out.loc HC.out hb); clear ho hb)
       | (go_at_call 25; clear tk13; have hcp := HOP.out.cap; refine (tree_ok (nch s.nP) cP AP (padN s.nP (b8 s.Prv)) 2048 _ HOP.out.rd (padN_lt (b8_lt _)) hcp (by omega) (by unfold nch; omega) (HC.out.sha' HZ16.out.bel)).mono ?_; rintro e w17 ⟨rfl, hb⟩; rw [← HEP.out]; have HZ17 := Lib.hid (HZ16.out.loc HC.out hb); clear hb HOP hcp)
       | (clear tk14; refine wpList_new rfl rfl 24 24 15 (.tmp 115) rfl rfl rfl 32 (Array.replicate 32 (.int .u8 0)) (by kernel_rfl) (by rfl) (arr 32 (u8v XP)) rfl rfl (size_arr _ _) (by kernel_rfl) (fun q hq => ⟨_, arr_at _ _ _ hq, rfl⟩) (u8v XP) (fun q hq => arr_at _ _ _ hq) ?_; intro w18 hr hb; have HQ18 := Lib.hid hr; have HZ18 := Lib.hid (HZ17.out.loc HC.out hb); clear hr hb; simp only [pcX]))
      refine wp_region_factsS (l := [_, _, _, _, _, _, _, _, _, _]) (tl := []) (B := w18.heap.size) (w0 := w18) [SF.is (.pointer (some ⟨g, 0, none⟩)), SF.is (rootV XP), SF.is (.pointer (some ⟨xb, 0, none⟩)), SF.is (.pointer (some ⟨xb, 0, none⟩)), SF.is (.pointer (some ⟨xb, 987, none⟩)), SF.is (.slice (s.aP) (s.nP) (s.cP)), SF.is (.int .i64 ((s.nP : Nat) : Int)), SF.is (.int .u64 ((s.nP : Nat) : Int)), SF.is (rootV (lmixN XP s.nP)), SF.is (.int .i64 0)] (by kernel_rfl) (by kernel_rfl) rfl (Nat.le_refl _) (Below.refl _ _) ⟨?_, ?_, ?_, ?_, ?_, ?_, ?_, ?_, ?_, ?_, trivial⟩ ?_
      ·exact (opOb_move _ rfl (.inl rfl) rfl)
      ·exact opOb_ld rfl rfl (OpK.tmp rfl) (fun w' hb => run_loadAt_part w' w17.heap.size 0 32 24 _ (u8v XP) (fun i hi => by rw [Nat.zero_add]; exact (row_below HQ18.out hb HQ18.out.lt).cell hi) Tryd.underlying24 rfl (by kernel_rfl))
      ·exact (opOb_move _ rfl (.inl rfl) rfl)
      ·exact opOb_nil _ rfl rfl (OpK.tmp rfl)
      ·exact opOb_fld rfl rfl (OpK.tmp rfl) (fun w => by simp [go_sem])
      ·exact opOb_ld rfl rfl (OpK.tmp rfl) (fun w' hb => PickDraw.run_ldSl w' _ _ _ _ ((HC.out.cell (HZ18.out.loc HC.out hb).bel 987 (by omega)).trans (congrArg some HC.out.ok.f15)) Tryd.underlying39)
      ·exact opOb_len Tryd.underlying39 rfl rfl (OpK.tmp rfl)
      ·exact opOb_cnv rfl rfl (OpK.tmp rfl) (fun w => by simp [go_sem, IntKind.wrap, IntKind.bits, IntKind.signed]; omega)
      ·exact opOb_fn2 er_mix rfl rfl (OpK.tmp rfl) (OpK.tmp rfl) (fun w' hb => (mix_look XP HXlP.out s.nP w' (HC.out.sha' (HZ18.out.loc HC.out hb).bel)).mono fun e w2 ⟨he, hb2⟩ => ⟨_, he, rfl, hb2⟩)
      ·exact (opOb_move _ rfl (.inl rfl) rfl)
      ·intro w' hb
       simp only [fin, SF.is, forall_eq]
       simp only [pcX]
       have HZ19 := Lib.hid (HZ18.out.loc HC.out hb)
       clear hb
       refine wp_fn er_put #[.pointer (some ⟨g, 0, none⟩), rootV (lmixN XP s.nP), .int .i64 0] rfl rfl ((RZ.put HC.out HZ19.out (by omega) (lmixN XP s.nP) (fun q _ => by rw [HXP.out])).mono ?_)
       rintro e w20 ⟨rfl, hz⟩
       refine ⟨_, rfl, ?_⟩
       have HZ20 := Lib.hid hz
       clear hz
       simp only [seqWp, Act.put]
       obtain ⟨XC, hXC⟩ : ∃ X, X = treeN (dep 2048) (nch s.nC) (padN s.nC (b8 s.Cur)) := ⟨_, rfl⟩
       have HEC := Lib.hid hXC
       have HXlC : Hid (∀ i, XC i < 256) := Lib.hid (by rw [hXC]; exact treeN_lt (padN_lt (b8_lt _)) _ _)
       have HXC : Hid (lmixN XC s.nC = stC s 16) := Lib.hid (by rw [hXC]; exact pack_chunk3 HC.out.right)
       clear hXC
       have hcntC : s.nC ≤ 65536 := by have h1 := HC.out.right.nC; have h2 := HC.out.right.n; omega
       go_wp2_with (first
        | ((with_reducible refine at_l ?_); refine wpList_as rfl 132 rfl (.slice s.aC s.nC s.cC) ?_ ?_; (· exact ex_ldSl rfl rfl Tryd.underlying39 (HC.out.cell HZ20.out.bel 988 (by omega)) HC.out.ok.f16))
        | (go_at_call 62; clear tk15; refine (pack_look s.nC s.cC s.aC (b8 s.Cur) _ (((HC.out.ok' HZ20.out.bel).rC.more (Nat.le_trans HC.out.hBw HZ20.out.bel.size)).congr (fun i hi => b8_at (HC.out.ok.scC i hi))) HC.out.ok.lC.1 (by omega)).mono ?_; rintro e w21 ⟨AP, cP, rfl, ho, hb⟩; have HOP := Lib.hid ho; have HZ21 := Lib.hid (HZ20.out.loc HC.out hb); clear ho hb)
        | (go_at_call 25; clear tk16; have hcp := HOP.out.cap; refine (tree_ok (nch s.nC) cP AP (padN s.nC (b8 s.Cur)) 2048 _ HOP.out.rd (padN_lt (b8_lt _)) hcp (by omega) (by unfold nch; omega) (HC.out.sha' HZ21.out.bel)).mono ?_; rintro e w22 ⟨rfl, hb⟩; rw [← HEC.out]; have HZ22 := Lib.hid (HZ21.out.loc HC.out hb); clear hb HOP hcp)
        | (clear tk17; refine wpList_new rfl rfl 24 24 17 (.tmp 135) rfl rfl rfl 32 (Array.replicate 32 (.int .u8 0)) (by kernel_rfl) (by rfl) (arr 32 (u8v XC)) rfl rfl (size_arr _ _) (by kernel_rfl) (fun q hq => ⟨_, arr_at _ _ _ hq, rfl⟩) (u8v XC) (fun q hq => arr_at _ _ _ hq) ?_; intro w23 hr hb; have HQ23 := Lib.hid hr; have HZ23 := Lib.hid (HZ22.out.loc HC.out hb); clear hr hb; simp only [pcX]))
       refine wp_region_factsS (l := [_, _, _, _, _, _, _, _, _, _]) (tl := []) (B := w23.heap.size) (w0 := w23) [SF.is (.pointer (some ⟨g, 0, none⟩)), SF.is (rootV XC), SF.is (.pointer (some ⟨xb, 0, none⟩)), SF.is (.pointer (some ⟨xb, 0, none⟩)), SF.is (.pointer (some ⟨xb, 988, none⟩)), SF.is (.slice (s.aC) (s.nC) (s.cC)), SF.is (.int .i64 ((s.nC : Nat) : Int)), SF.is (.int .u64 ((s.nC : Nat) : Int)), SF.is (rootV (lmixN XC s.nC)), SF.is (.int .i64 0)] (by kernel_rfl) (by kernel_rfl) rfl (Nat.le_refl _) (Below.refl _ _) ⟨?_, ?_, ?_, ?_, ?_, ?_, ?_, ?_, ?_, ?_, trivial⟩ ?_
       ·exact (opOb_move _ rfl (.inl rfl) rfl)
       ·exact opOb_ld rfl rfl (OpK.tmp rfl) (fun w' hb => run_loadAt_part w' w22.heap.size 0 32 24 _ (u8v XC) (fun i hi => by rw [Nat.zero_add]; exact (row_below HQ23.out hb HQ23.out.lt).cell hi) Tryd.underlying24 rfl (by kernel_rfl))
       ·exact (opOb_move _ rfl (.inl rfl) rfl)
       ·exact opOb_nil _ rfl rfl (OpK.tmp rfl)
       ·exact opOb_fld rfl rfl (OpK.tmp rfl) (fun w => by simp [go_sem])
       ·exact opOb_ld rfl rfl (OpK.tmp rfl) (fun w' hb => PickDraw.run_ldSl w' _ _ _ _ ((HC.out.cell (HZ23.out.loc HC.out hb).bel 988 (by omega)).trans (congrArg some HC.out.ok.f16)) Tryd.underlying39)
       ·exact opOb_len Tryd.underlying39 rfl rfl (OpK.tmp rfl)
       ·exact opOb_cnv rfl rfl (OpK.tmp rfl) (fun w => by simp [go_sem, IntKind.wrap, IntKind.bits, IntKind.signed]; omega)
       ·exact opOb_fn2 er_mix rfl rfl (OpK.tmp rfl) (OpK.tmp rfl) (fun w' hb => (mix_look XC HXlC.out s.nC w' (HC.out.sha' (HZ23.out.loc HC.out hb).bel)).mono fun e w2 ⟨he, hb2⟩ => ⟨_, he, rfl, hb2⟩)
       ·exact (opOb_move _ rfl (.inl rfl) rfl)
       ·intro w' hb
        simp only [fin, SF.is, forall_eq]
        simp only [pcX]
        have HZ24 := Lib.hid (HZ23.out.loc HC.out hb)
        clear hb
        refine wp_fn er_put #[.pointer (some ⟨g, 0, none⟩), rootV (lmixN XC s.nC), .int .i64 0] rfl rfl ((RZ.put HC.out HZ24.out (by omega) (lmixN XC s.nC) (fun q _ => by rw [HXC.out])).mono ?_)
        rintro e w25 ⟨rfl, hz⟩
        refine ⟨_, rfl, ?_⟩
        have HZ25 := Lib.hid hz
        clear hz
        simp only [seqWp, Act.put]
        go_wp2_with (first
         | ((with_reducible refine at_l ?_); refine wpList_as rfl 152 rfl (.slice (some ⟨xb, 989, none⟩) 4 4) ?_ ?_; (· exact ex_slice rfl rfl rfl rfl (fun w => cut_arr Tryd.underlying40 1 (by kernel_rfl) none none xb 989 4 0 4 (by omega) (by omega) rfl rfl w) _))
         | (go_at_call 63; clear tk18; refine (vector_any _ 4 4 (some ⟨xb, 989, none⟩) (fun i => bln (s.F (989 + i))) _ (HC.out.rd HZ25.out.bel 989 4 (fun i => .bool (bln (s.F (989 + i)))) (by omega) HBt.out) (Nat.le_refl _) (by omega)).mono ?_; rintro e w26 ⟨gb, rfl, hgb, hrb, hb⟩; have HRb := Lib.hid hrb; have HZ26 := Lib.hid (HZ25.out.loc HC.out hb); clear hb hrb)
         | (go_at_call 56; clear tk19; refine (RZ.bytes HC.out HZ26.out (by omega) 1 1 (some ⟨gb, 0, none⟩) (byteOf (fun i => bln (s.F (989 + i))) 4) (Rd.of_row HRb.out (Nat.le_refl _) HRb.out.lt) (byteOf_lt _ _) (by omega) (by omega) (by omega) (fun _ _ => rfl)).mono ?_; rintro e w27 ⟨rfl, hz⟩; have HZ27 := Lib.hid hz; clear hz)
         | ((with_reducible refine at_l ?_); refine wpList_load_part rfl 42 (.tmp 158) rfl xb 993 33 (at_ s.F 993) rfl _ (fun i hi => HC.out.cell HZ27.out.bel (993 + i) (by omega)) Tryd.underlying42 rfl (by kernel_rfl) _ rfl ?_)
         | (go_at_call 35; clear tk20; refine (check_look (at_ s.F 993) HC993.out _ (HC.out.sha' HZ27.out.bel)).mono ?_; rintro e w28 ⟨rfl, hb⟩; have HZ28 := Lib.hid (HZ27.out.loc HC.out hb); clear hb)
         | (go_at_call 53; clear tk21; refine (RZ.put HC.out HZ28.out (by omega) (checkN (at_ s.F 993)) (fun _ _ => rfl)).mono ?_; rintro e w29 ⟨rfl, hz⟩; have HZ29 := Lib.hid hz; clear hz)
         | ((with_reducible refine at_l ?_); refine wpList_load_part rfl 42 (.tmp 165) rfl xb 1026 33 (at_ s.F 1026) rfl _ (fun i hi => HC.out.cell HZ29.out.bel (1026 + i) (by omega)) Tryd.underlying42 rfl (by kernel_rfl) _ rfl ?_)
         | (go_at_call 35; clear tk22; refine (check_look (at_ s.F 1026) HC1026.out _ (HC.out.sha' HZ29.out.bel)).mono ?_; rintro e w30 ⟨rfl, hb⟩; have HZ30 := Lib.hid (HZ29.out.loc HC.out hb); clear hb)
         | (go_at_call 53; clear tk23; refine (RZ.put HC.out HZ30.out (by omega) (checkN (at_ s.F 1026)) (fun _ _ => rfl)).mono ?_; rintro e w31 ⟨rfl, hz⟩; have HZ31 := Lib.hid hz; clear hz)
         | ((with_reducible refine at_l ?_); refine wpList_load_part rfl 42 (.tmp 172) rfl xb 1059 33 (at_ s.F 1059) rfl _ (fun i hi => HC.out.cell HZ31.out.bel (1059 + i) (by omega)) Tryd.underlying42 rfl (by kernel_rfl) _ rfl ?_)
         | (go_at_call 35; clear tk24; refine (check_look (at_ s.F 1059) HC1059.out _ (HC.out.sha' HZ31.out.bel)).mono ?_; rintro e w32 ⟨rfl, hb⟩; have HZ32 := Lib.hid (HZ31.out.loc HC.out hb); clear hb)
         | (go_at_call 53; clear tk25; refine (RZ.put HC.out HZ32.out (by omega) (checkN (at_ s.F 1059)) (fun _ _ => rfl)).mono ?_; rintro e w33 ⟨rfl, hz⟩; have HZ33 := Lib.hid hz; clear hz))
        go_end0
        exact ⟨rfl, HZ33.out⟩
end Go.Proofs.YtomilckcgmhfcaaDoor
/- state.rootState3: chunks of a state, gathered. (Printed by a program of mine.) -/
namespace Go.Proofs.YtomilckcgmhfcaaDoor
set_option maxRecDepth 40000
open Go.RowKit
namespace StRoot3
theorem er_mix (vs : Array Value) (w : World) : (callFunc 31 vs).run Tryd.prog w = .ok (.enter 31 vs) w := by kernel_rfl
theorem er_put (vs : Array Value) (w : World) : (callFunc 53 vs).run Tryd.prog w = .ok (.enter 53 vs) w := by kernel_rfl
theorem num_chunk4 {s : StV} (h : RightF s) : lmixN (treeN (dep ((65536 + 3) / 4)) (nch (8 * s.nS)) (padN (8 * s.nS) (LiveSmall.leS fun i => nat (s.Sco i)))) s.nS = stC s 21 := by
 show _ = lmixN (treeN (dep 16384) (lvC 4 s.nV) (lvX s 4)) s.nV
 have h1 := h.nS
 rw [show nch (8 * s.nS) = lvC 4 s.nV by unfold nch lvC lvG; simp; omega]
 conv => lhs; arg 2; rw [h1]
 rfl
end StRoot3
open StRoot3 in
set_option maxHeartbeats 40000000 in
theorem state_root3 (w w0 : World) (B base g xb : Nat) (s : StV) (hc : RC w B base g xb s) (hz : RZ w B base g s 21 w0) :
  Calls Tryd.prog 39 #[.pointer (some ⟨g, 0, none⟩), .pointer (some ⟨xb, 0, none⟩)] w0 fun e w' => e = .returned (.tuple #[]) ∧ RZ w B base g s 24 w' := by
 have HC := Lib.hid hc
 have HZ0 := Lib.hid hz
 have tk1 : Tok 1 := Tok.mk 1
 have tk2 : Tok 2 := Tok.mk 2
 have HC1093 := Lib.hid (HC.out.ok.sc.at_ 1093 432 47 (by kernel_rfl) (leaf_out (n := 432) Tryd.underlying47 (by kernel_rfl)))
 have tk3 : Tok 3 := Tok.mk 3
 have tk4 : Tok 4 := Tok.mk 4
 have HC1525 := Lib.hid (HC.out.ok.sc.at_ 1525 432 47 (by kernel_rfl) (leaf_out (n := 432) Tryd.underlying47 (by kernel_rfl)))
 have tk5 : Tok 5 := Tok.mk 5
 have tk6 : Tok 6 := Tok.mk 6
 clear hc hz
 go_enter Tryd.func39, Tryd.ntmps39
 obtain ⟨XS, hXS⟩ : ∃ X, X = treeN (dep ((65536 + 3) / 4)) (nch (8 * s.nS)) (padN (8 * s.nS) (LiveSmall.leS fun i => nat (s.Sco i))) := ⟨_, rfl⟩
 have HES := Lib.hid hXS
 have HXlS : Hid (∀ i, XS i < 256) := Lib.hid (by rw [hXS]; exact treeN_lt (padN_lt fun _ => leB_lt _ _) _ _)
 have HXS : Hid (lmixN XS s.nS = stC s 21) := Lib.hid (by rw [hXS]; exact num_chunk4 HC.out.right)
 clear hXS
 have hcntS : s.nS ≤ 65536 := by have h1 := HC.out.right.nS; have h2 := HC.out.right.n; omega
 go_wp2_with (first
  | ((with_reducible refine at_l ?_); refine wpList_as rfl 9 rfl (.slice s.aS s.nS s.cS) ?_ ?_; (· exact ex_ldSl rfl rfl Tryd.underlying37 (HC.out.cell HZ0.out.bel 1092 (by omega)) HC.out.ok.f21))
  | ((with_reducible refine at_l ?_); refine wpList_as rfl 19 rfl (.slice s.aS s.nS s.cS) ?_ ?_; (· exact ex_ldSl rfl rfl Tryd.underlying37 (HC.out.cell HZ0.out.bel 1092 (by omega)) HC.out.ok.f21))
  | (go_at_call 61; clear tk1; refine (numbers_look s.nS s.cS 65536 s.aS (fun i => nat (s.Sco i)) _ (((HC.out.ok' HZ0.out.bel).rS.more (Nat.le_trans HC.out.hBw HZ0.out.bel.size)).congr (fun i hi => (HC.out.ok.scS i hi).1)) HC.out.ok.lS.1 (by omega) (by omega) (by omega) (HC.out.sha' HZ0.out.bel)).mono ?_; rintro e w1 ⟨rfl, hb⟩; rw [← HES.out]; have HZ1 := Lib.hid (HZ0.out.loc HC.out hb); clear hb)
  | (clear tk2; refine wpList_new rfl rfl 24 24 4 (.tmp 21) rfl rfl rfl 32 (Array.replicate 32 (.int .u8 0)) (by kernel_rfl) (by rfl) (arr 32 (u8v XS)) rfl rfl (size_arr _ _) (by kernel_rfl) (fun q hq => ⟨_, arr_at _ _ _ hq, rfl⟩) (u8v XS) (fun q hq => arr_at _ _ _ hq) ?_; intro w2 hr hb; have HQ2 := Lib.hid hr; have HZ2 := Lib.hid (HZ1.out.loc HC.out hb); clear hr hb; simp only [pcX]))
 refine wp_region_factsS (l := [_, _, _, _, _, _, _, _, _, _]) (tl := []) (B := w2.heap.size) (w0 := w2) [SF.is (.pointer (some ⟨g, 0, none⟩)), SF.is (rootV XS), SF.is (.pointer (some ⟨xb, 0, none⟩)), SF.is (.pointer (some ⟨xb, 0, none⟩)), SF.is (.pointer (some ⟨xb, 1092, none⟩)), SF.is (.slice (s.aS) (s.nS) (s.cS)), SF.is (.int .i64 ((s.nS : Nat) : Int)), SF.is (.int .u64 ((s.nS : Nat) : Int)), SF.is (rootV (lmixN XS s.nS)), SF.is (.int .i64 0)] (by kernel_rfl) (by kernel_rfl) rfl (Nat.le_refl _) (Below.refl _ _) ⟨?_, ?_, ?_, ?_, ?_, ?_, ?_, ?_, ?_, ?_, trivial⟩ ?_
 ·exact (opOb_move _ rfl (.inl rfl) rfl)
 ·exact opOb_ld rfl rfl (OpK.tmp rfl) (fun w' hb => run_loadAt_part w' w1.heap.size 0 32 24 _ (u8v XS) (fun i hi => by rw [Nat.zero_add]; exact (row_below HQ2.out hb HQ2.out.lt).cell hi) Tryd.underlying24 rfl (by kernel_rfl))
 ·exact (opOb_move _ rfl (.inl rfl) rfl)
 ·exact opOb_nil _ rfl rfl (OpK.tmp rfl)
 ·exact opOb_fld rfl rfl (OpK.tmp rfl) (fun w => by simp [go_sem])
 ·exact opOb_ld rfl rfl (OpK.tmp rfl) (fun w' hb => PickDraw.run_ldSl w' _ _ _ _ ((HC.out.cell (HZ2.out.loc HC.out hb).bel 1092 (by omega)).trans (congrArg some HC.out.ok.f21)) Tryd.underlying37)
 ·exact opOb_len Tryd.underlying37 rfl rfl (OpK.tmp rfl)
 ·exact opOb_cnv rfl rfl (OpK.tmp rfl) (fun w => by simp [go_sem, IntKind.wrap, IntKind.bits, IntKind.signed]; omega)
 ·exact opOb_fn2 er_mix rfl rfl (OpK.tmp rfl) (OpK.tmp rfl) (fun w' hb => (mix_look XS HXlS.out s.nS w' (HC.out.sha' (HZ2.out.loc HC.out hb).bel)).mono fun e w2 ⟨he, hb2⟩ => ⟨_, he, rfl, hb2⟩)
 ·exact (opOb_move _ rfl (.inl rfl) rfl)
 ·intro w' hb
  simp only [fin, SF.is, forall_eq]
  simp only [pcX]
  have HZ3 := Lib.hid (HZ2.out.loc HC.out hb)
  clear hb
  refine wp_fn er_put #[.pointer (some ⟨g, 0, none⟩), rootV (lmixN XS s.nS), .int .i64 0] rfl rfl ((RZ.put HC.out HZ3.out (by omega) (lmixN XS s.nS) (fun q _ => by rw [HXS.out])).mono ?_)
  rintro e w4 ⟨rfl, hz⟩
  refine ⟨_, rfl, ?_⟩
  have HZ4 := Lib.hid hz
  clear hz
  simp only [seqWp, Act.put]
  go_wp2_with (first
   | ((with_reducible refine at_l ?_); refine wpList_load_part rfl 47 (.tmp 37) rfl xb 1093 432 (at_ s.F 1093) rfl _ (fun i hi => HC.out.cell HZ4.out.bel (1093 + i) (by omega)) Tryd.underlying47 rfl (by kernel_rfl) _ rfl ?_)
   | (go_at_call 36; clear tk3; refine (comm_look (at_ s.F 1093) HC1093.out _ (HC.out.sha' HZ4.out.bel)).mono ?_; rintro e w5 ⟨rfl, hb⟩; have HZ5 := Lib.hid (HZ4.out.loc HC.out hb); clear hb)
   | (go_at_call 53; clear tk4; refine (RZ.put HC.out HZ5.out (by omega) (commN (at_ s.F 1093)) (fun _ _ => rfl)).mono ?_; rintro e w6 ⟨rfl, hz⟩; have HZ6 := Lib.hid hz; clear hz)
   | ((with_reducible refine at_l ?_); refine wpList_load_part rfl 47 (.tmp 44) rfl xb 1525 432 (at_ s.F 1525) rfl _ (fun i hi => HC.out.cell HZ6.out.bel (1525 + i) (by omega)) Tryd.underlying47 rfl (by kernel_rfl) _ rfl ?_)
   | (go_at_call 36; clear tk5; refine (comm_look (at_ s.F 1525) HC1525.out _ (HC.out.sha' HZ6.out.bel)).mono ?_; rintro e w7 ⟨rfl, hb⟩; have HZ7 := Lib.hid (HZ6.out.loc HC.out hb); clear hb)
   | (go_at_call 53; clear tk6; refine (RZ.put HC.out HZ7.out (by omega) (commN (at_ s.F 1525)) (fun _ _ => rfl)).mono ?_; rintro e w8 ⟨rfl, hz⟩; have HZ8 := Lib.hid hz; clear hz))
  go_end0
  exact ⟨rfl, HZ8.out⟩
end Go.Proofs.YtomilckcgmhfcaaDoor
/- state.RootState: the root of a right state. (Printed by a program of mine.) -/
namespace Go.Proofs.YtomilckcgmhfcaaDoor
set_option maxRecDepth 40000
open Go.RowKit
set_option maxHeartbeats 8000000 in
theorem rootState_look (s : StV) (w : World) (hS : StOk w w.heap.size s) (hR : RightF s) (hp : ShaPkg w) :
  Calls Tryd.prog 12 #[.agg (arr 1957 s.F)] w fun e w' => e = .returned (.tuple #[rootV (stN s), .int .i64 0]) ∧ Below w.heap.size w w' := by
 have HSt := Lib.hid hS
 have HR := Lib.hid hR
 have HP := Lib.hid hp
 have HS0 := Lib.hid (HS.nil w)
 have hpl := hp.lt
 obtain ⟨X, hX⟩ : ∃ X, X = stN s := ⟨_, rfl⟩
 have HX := Lib.hid hX
 rw [← hX]
 clear hS hR hp hX
 go_enter Tryd.func12, Tryd.ntmps12
 go_upto_region 1 with (first
  | ((with_reducible refine at_l ?_); refine wpList_boxL rfl 49 _ 1 rfl rfl HS0.out 1957 s.F rfl ?_; intro b1 w1 hb1 hc1 hs1; have HS1 := Lib.hid hs1; clear hs1)
  | ((with_reducible refine at_l ?_); refine wpList_allocL rfl 24 2 rfl rfl HS1.out (Array.replicate 32 (.int .u8 0)) (by kernel_rfl) 32 (u8v fun _ => 0) (by rfl) (zero_at 32 (.int .u8 0)) ?_; intro b2 wB hb2 hc2 hs; have HSB := Lib.hid hs; clear hs))
 have hlb1 : b1 < wB.heap.size := HSB.out.lt 1 rfl
 have hszB := HSB.out.size
 go_upto_region 2 with (first
  | ((with_reducible refine at_l ?_); refine wpList_allocL rfl 90 4 rfl rfl (HS.nil wB) _ zero_hash 2 (hashF none 0 0) (size_arr _ _) (fun i hi => arr_at _ _ i hi) ?_; intro b4 w3 hb4 hc4 hs; have HR4 := Lib.hid (hs.row 0 rfl); have HB4 := Lib.hid (hs.out (by simp; omega)); clear hs))
 have HS3 := Lib.hid (HSB.out.below HB4.out)
 have HC : Hid (RC w3 wB.heap.size wB.heap.size b4 b1 s) := Lib.hid ⟨HS3.out.row 1 rfl, hlb1, (HSt.out.below (HS3.out.out (by simp; omega))).more hszB, HR.out, HP.out.below (HS3.out.out (by simp; omega)), by omega, Nat.le_refl _, hb4, HB4.out.size⟩
 have HZ0 : Hid (RZ w3 wB.heap.size wB.heap.size b4 s 0 w3) := Lib.hid ⟨⟨none, 0, HR4.out, OwnZ.nil w3 _ _ _ _, fun ad e => by cases e⟩, Below.refl _ _⟩
 go_wp2_with (first
  | (go_at_call 37; refine (state_root1 w3 _ wB.heap.size wB.heap.size b4 b1 s HC.out HZ0.out).mono ?_; rintro e w4 ⟨rfl, hz⟩; have HZ1 := Lib.hid hz; clear hz)
  | (go_at_call 38; refine (state_root2 w3 _ wB.heap.size wB.heap.size b4 b1 s HC.out HZ1.out).mono ?_; rintro e w5 ⟨rfl, hz⟩; have HZ2 := Lib.hid hz; clear hz)
  | (go_at_call 39; refine (state_root3 w3 _ wB.heap.size wB.heap.size b4 b1 s HC.out HZ2.out).mono ?_; rintro e w6 ⟨rfl, hz⟩; have HZ3 := Lib.hid hz; clear hz)
  | (go_at_call 40; refine (done_look wB.heap.size wB.heap.size b4 24 (stX s) _ HZ3.out.hash (stX_lt s) (Nat.le_refl _) hb4 (Nat.le_trans HB4.out.size HZ3.out.bel.size) (by omega) (by omega) (HC.out.sha' HZ3.out.bel) HC.out.shaB).mono ?_; rintro e w7 ⟨rfl, hb⟩; rw [show treeN (dep 24) 24 (stX s) = X from HX.out.symm]; have HS7 := Lib.hid (HSB.out.below (HB4.out.trans (HZ3.out.bel.trans hb))); clear hb)
  | ((with_reducible refine at_l ?_); refine wpList_storeH rfl 24 (.tmp 2) (.tmp 9) rfl HS7.out 0 rfl (u8v X) rfl rfl (by kernel_rfl) (fun _ _ => rfl) ?_; intro wy hs; have HY := Lib.hid hs; clear hs))
 exact ret_rowTmp rfl (HY.out.row 0 rfl) _ (.int .i64 0) rfl rfl Tryd.underlying24 rfl (by kernel_rfl) rfl ⟨rfl, HY.out.out (by simp; omega)⟩
end Go.Proofs.YtomilckcgmhfcaaDoor
/- States that are alike where it counts have one root. -/
namespace Go.Proofs.YtomilckcgmhfcaaDoor
set_option maxRecDepth 40000
open Go.RowKit
def E32 (x y : Nat → Nat) : Prop := ∀ q, q < 32 → x q = y q
theorem E32.of {x y : Nat → Nat} (h : x = y) : E32 x y := fun q _ => congrFun h q
theorem treeN_cg {d n : Nat} {x y : Nat → Nat} (hn : n ≤ 2 ^ d) (h : ∀ i, i < n * 32 → x i = y i) : E32 (treeN d n x) (treeN d n y) := fun i hi => by
 rw [tree_full d n x hn i hi, tree_full d n y hn i hi]
 refine fullN_congr d _ _ (fun j _ => ?_) i hi
 unfold padN
 by_cases hj : j < n * 32
 ·rw [if_pos hj, if_pos hj, h j hj]
 ·rw [if_neg hj, if_neg hj]
theorem cat_cg (k : Nat) {x y r r' : Nat → Nat} (hx : ∀ i, i < k * 32 → x i = y i) (hr : E32 r r') : ∀ i, i < (k + 1) * 32 → catN (k * 32) x r i = catN (k * 32) y r' i := fun i hi => by
 unfold catN
 by_cases h : i < k * 32
 ·rw [if_pos h, if_pos h, hx i h]
 ·rw [if_neg h, if_neg h, hr _ (by omega)]
theorem bytN_cg {F G : Nat → Value} {o p m : Nat} (h : ∀ i, i < m → F (o + i) = G (p + i)) : bytN F o m = bytN G p m := by
 unfold bytN
 have e : padN m (byF F o) = padN m (byF G p) := by
  funext i
  unfold padN byF
  by_cases hi : i < m
  ·rw [if_pos hi, if_pos hi, h i hi]
  ·rw [if_neg hi, if_neg hi]
 rw [e]
theorem byF_cg {F G : Nat → Value} {o n : Nat} (h : ∀ i, i < n → F (o + i) = G (o + i)) : ∀ i, i < n → byF F o i = byF G o i := fun i hi => by unfold byF; rw [h i hi]
theorem numN_cg {F G : Nat → Value} {o : Nat} (h : F o = G o) : numN F o = numN G o := by unfold numN; rw [h]
theorem c0 {x y : Nat → Nat} : ∀ i, i < 0 * 32 → x i = y i := fun i hi => by omega
section
variable {F G : Nat → Value}
theorem forkN_cg (h : ∀ i, i < 9 → F i = G i) : E32 (forkN F) (forkN G) :=
 treeN_cg (dep_ge 3) (cat_cg 2 (cat_cg 1 (cat_cg 0 c0 (.of (bytN_cg fun i hi => h _ (by omega)))) (.of (bytN_cg fun i hi => h _ (by omega)))) (.of (numN_cg (h _ (by omega)))))
theorem headerN_cg (h : ∀ i, i < 98 → F i = G i) : E32 (headerN F) (headerN G) :=
 treeN_cg (dep_ge 5) (cat_cg 4 (cat_cg 3 (cat_cg 2 (cat_cg 1 (cat_cg 0 c0 (.of (numN_cg (h _ (by omega))))) (.of (numN_cg (h _ (by omega))))) (byF_cg fun i hi => h _ (by omega))) (byF_cg fun i hi => h _ (by omega))) (byF_cg fun i hi => h _ (by omega)))
theorem eth1N_cg (h : ∀ i, i < 65 → F i = G i) : E32 (eth1N F) (eth1N G) :=
 treeN_cg (dep_ge 3) (cat_cg 2 (cat_cg 1 (cat_cg 0 c0 (byF_cg fun i hi => h _ (by omega))) (.of (numN_cg (h _ (by omega))))) (byF_cg fun i hi => h _ (by omega)))
theorem checkN_cg (h : ∀ i, i < 33 → F i = G i) : E32 (checkN F) (checkN G) :=
 treeN_cg (dep_ge 2) (cat_cg 1 (cat_cg 0 c0 (.of (numN_cg (h _ (by omega))))) (byF_cg fun i hi => h _ (by omega)))
theorem validN_cg (h : ∀ i, i < 86 → F i = G i) : E32 (validN F) (validN G) :=
 treeN_cg (dep_ge 8) (cat_cg 7 (cat_cg 6 (cat_cg 5 (cat_cg 4 (cat_cg 3 (cat_cg 2 (cat_cg 1 (cat_cg 0 c0 (.of (bytN_cg fun i hi => h _ (by omega)))) (byF_cg fun i hi => h _ (by omega))) (.of (numN_cg (h _ (by omega))))) (.of (by rw [h 81 (by omega)]))) (.of (numN_cg (h _ (by omega))))) (.of (numN_cg (h _ (by omega))))) (.of (numN_cg (h _ (by omega))))) (.of (numN_cg (h _ (by omega)))))
theorem commN_cg (h : ∀ i, i < 432 → F i = G i) : E32 (commN F) (commN G) :=
 treeN_cg (dep_ge 2) (cat_cg 1 (cat_cg 0 c0 (treeN_cg (dep_ge 8) (fun i hi => by unfold keysX; rw [bytN_cg (G := G) (p := i / 32 * 48) (fun j hj => h _ (by omega))]))) (.of (bytN_cg fun i hi => h _ (by omega))))
end
theorem lmix_cg {r r' : Nat → Nat} (m : Nat) (h : E32 r r') : lmixN r m = lmixN r' m := by
 unfold lmixN
 refine shaB_congr fun i hi => ?_
 unfold catN
 by_cases h1 : i < 32
 ·rw [if_pos h1, if_pos h1, h i h1]
 ·rw [if_neg h1, if_neg h1]
theorem numX_cg {n : Nat} {f g : Nat → Value} (h : ∀ i, i < n → f i = g i) : numX n f = numX n g := by
 funext i
 unfold numX padN LiveSmall.leS
 by_cases h1 : i < 8 * n
 ·rw [if_pos h1, if_pos h1]
  show leB (nat (f (i / 8))) _ = leB (nat (g (i / 8))) _
  rw [h (i / 8) (by omega)]
 ·rw [if_neg h1, if_neg h1]
theorem bytX_cg {n : Nat} {f g : Nat → Value} (h : ∀ i, i < n → f i = g i) : bytX n f = bytX n g := by
 funext i
 unfold bytX padN b8
 by_cases h1 : i < n
 ·rw [if_pos h1, if_pos h1, h _ h1]
 ·rw [if_neg h1, if_neg h1]
theorem bits_cg {x y : Nat → Bool} (h : ∀ i, i < 4 → x i = y i) : byteOf x 4 = byteOf y 4 := by
 have e : ∀ n, n ≤ 4 → byteOf x n = byteOf y n := fun n => by
  induction n with
  | zero => intro _; funext j; rw [byteOf_zero, byteOf_zero]
  | succ n ih =>
   intro hn
   have h1 := ih (by omega)
   cases hx : x n with
   | false => funext j; rw [byteOf_skip _ _ _ hx, byteOf_skip _ _ _ (by rw [← h n (by omega)]; exact hx), h1]
   | true =>
    have hy : y n = true := by rw [← h n (by omega)]; exact hx
    funext j
    by_cases ej : j = n / 8
    ·subst ej; rw [(byteOf_at x n hx).1, (byteOf_at y n hy).1, h1]
    ·rw [byteOf_other _ _ _ ej, byteOf_other _ _ _ ej, h1]
 exact e 4 (Nat.le_refl _)
/-- Alike where it counts. -/
structure SEq (s t : StV) : Prop where
 nV : t.nV = s.nV
 nB : t.nB = s.nB
 nP : t.nP = s.nP
 nC : t.nC = s.nC
 nS : t.nS = s.nS
 nH : t.nH = s.nH
 nE : t.nE = s.nE
 F : ∀ i, i < 1957 → i ≠ 653 → i ≠ 719 → i ≠ 721 → i ≠ 722 → i ≠ 987 → i ≠ 988 → i ≠ 1092 → t.F i = s.F i
 V : ∀ i, i < s.nV * 86 → t.V i = s.V i
 Bal : ∀ i, i < s.nB → t.Bal i = s.Bal i
 Prv : ∀ i, i < s.nP → t.Prv i = s.Prv i
 Cur : ∀ i, i < s.nC → t.Cur i = s.Cur i
 Sco : ∀ i, i < s.nS → t.Sco i = s.Sco i
 His : ∀ i, i < s.nH * 32 → t.His i = s.His i
 Vot : ∀ i, i < s.nE * 65 → t.Vot i = s.Vot i
theorem SameS.seq {s t : StV} (e : SameS s t) : SEq s t := ⟨e.nV, e.nB, e.nP, e.nC, e.nS, e.nH, e.nE, fun i _ => e.F i, fun i _ => by rw [e.V], fun i _ => by rw [e.Bal], fun i _ => by rw [e.Prv], fun i _ => by rw [e.Cur], fun i _ => by rw [e.Sco], fun i _ => by rw [e.His], fun i _ => by rw [e.Vot]⟩
theorem stC_cg {s t : StV} (e : SEq s t) (hR : RightF s) (hF : Sc s.F 49) : ∀ k, k < 24 → E32 (stC t k) (stC s k) := fun k hk => by
  have f : ∀ i, i < 1957 → i ≠ 653 → i ≠ 719 → i ≠ 721 → i ≠ 722 → i ≠ 987 → i ≠ 988 → i ≠ 1092 → t.F i = s.F i := e.F
  have at_cg : ∀ (o n : Nat) (g : (Nat → Value) → Nat → Nat), (∀ F G : Nat → Value, (∀ i, i < n → F i = G i) → E32 (g F) (g G)) → (∀ i, i < n → t.F (o + i) = s.F (o + i)) → E32 (g (at_ t.F o)) (g (at_ s.F o)) := fun o n g hg h => hg _ _ h
  have vec : ∀ o, (∀ i, i < 256 → t.F (o + i) = s.F (o + i)) → E32 (treeN (dep 8) 8 (byF t.F o)) (treeN (dep 8) 8 (byF s.F o)) := fun o h => treeN_cg (dep_ge 8) (byF_cg h)
  have tr : ∀ j, j < 5 → ∀ D, lvC j s.nV ≤ 2 ^ D → (∀ i, i < lvC j s.nV * 32 → lvX t j i = lvX s j i) → E32 (lmixN (treeN D (lvC j t.nV) (lvX t j)) t.nV) (lmixN (treeN D (lvC j s.nV) (lvX s j)) s.nV) := fun j _ D hD h => by
    rw [e.nV]; exact .of (lmix_cg _ (treeN_cg hD h))
  have hn := hR.n
  have lv1 : lvX t 1 = lvX s 1 := by show numX t.nB t.Bal = numX s.nB s.Bal; rw [e.nB]; exact numX_cg e.Bal
  have lv2 : lvX t 2 = lvX s 2 := by show bytX t.nP t.Prv = bytX s.nP s.Prv; rw [e.nP]; exact bytX_cg e.Prv
  have lv3 : lvX t 3 = lvX s 3 := by show bytX t.nC t.Cur = bytX s.nC s.Cur; rw [e.nC]; exact bytX_cg e.Cur
  have lv4 : lvX t 4 = lvX s 4 := by show numX t.nS t.Sco = numX s.nS s.Sco; rw [e.nS]; exact numX_cg e.Sco
  match k, hk with
  | 0, _ => exact .of (numN_cg (f 0 (by omega) (by omega) (by omega) (by omega) (by omega) (by omega) (by omega) (by omega)))
  | 1, _ => exact byF_cg fun i hi => f _ (by omega) (by omega) (by omega) (by omega) (by omega) (by omega) (by omega) (by omega)
  | 2, _ => exact .of (numN_cg (f 33 (by omega) (by omega) (by omega) (by omega) (by omega) (by omega) (by omega) (by omega)))
  | 3, _ => exact at_cg 34 9 forkN (fun _ _ => forkN_cg) fun i hi => f _ (by omega) (by omega) (by omega) (by omega) (by omega) (by omega) (by omega) (by omega)
  | 4, _ => exact at_cg 43 98 headerN (fun _ _ => headerN_cg) fun i hi => f _ (by omega) (by omega) (by omega) (by omega) (by omega) (by omega) (by omega) (by omega)
  | 5, _ => exact vec 141 fun i hi => f _ (by omega) (by omega) (by omega) (by omega) (by omega) (by omega) (by omega) (by omega)
  | 6, _ => exact vec 397 fun i hi => f _ (by omega) (by omega) (by omega) (by omega) (by omega) (by omega) (by omega) (by omega)
  | 7, _ =>
    show E32 (lmixN (treeN (dep 1024) t.nH (b8 t.His)) t.nH) (lmixN (treeN (dep 1024) s.nH (b8 s.His)) s.nH)
    rw [e.nH]
    exact .of (lmix_cg _ (treeN_cg (Nat.le_trans hR.nH (dep_ge 1024)) fun i hi => by unfold b8; rw [e.His i hi]))
  | 8, _ => exact at_cg 654 65 eth1N (fun _ _ => eth1N_cg) fun i hi => f _ (by omega) (by omega) (by omega) (by omega) (by omega) (by omega) (by omega) (by omega)
  | 9, _ =>
    show E32 (lmixN (treeN (dep 8) t.nE (votX t.Vot)) t.nE) (lmixN (treeN (dep 8) s.nE (votX s.Vot)) s.nE)
    rw [e.nE]
    exact .of (lmix_cg _ (treeN_cg (Nat.le_trans hR.nE (dep_ge 8)) fun i hi => eth1N_cg (fun q hq => e.Vot _ (by omega)) _ (by omega)))
  | 10, _ => exact .of (numN_cg (f 720 (by omega) (by omega) (by omega) (by omega) (by omega) (by omega) (by omega) (by omega)))
  | 11, _ => exact tr 0 (by omega) (dep 65536) (by unfold lvC lvG; simp; exact Nat.le_trans hn (dep_ge 65536)) (by
      intro i hi
      show valX t.V i = valX s.V i
      have hi' : i < s.nV * 32 := by unfold lvC lvG at hi; simpa using hi
      exact validN_cg (fun q hq => e.V _ (by omega)) _ (by omega))
  | 12, _ => exact tr 1 (by omega) (dep 16384) (Nat.le_trans (by unfold lvC lvG; simp; omega) (dep_ge 16384)) fun i hi => by rw [lv1]
  | 13, _ => exact vec 723 fun i hi => f _ (by omega) (by omega) (by omega) (by omega) (by omega) (by omega) (by omega) (by omega)
  | 14, _ =>
    show E32 (treeN (dep 2) 2 (numX 8 (at_ t.F 979))) (treeN (dep 2) 2 (numX 8 (at_ s.F 979)))
    rw [numX_cg (n := 8) (f := at_ t.F 979) (g := at_ s.F 979) fun i hi => f _ (by omega) (by omega) (by omega) (by omega) (by omega) (by omega) (by omega) (by omega)]
    exact .of rfl
  | 15, _ => exact tr 2 (by omega) (dep 2048) (Nat.le_trans (by unfold lvC lvG; simp; omega) (dep_ge 2048)) fun i hi => by rw [lv2]
  | 16, _ => exact tr 3 (by omega) (dep 2048) (Nat.le_trans (by unfold lvC lvG; simp; omega) (dep_ge 2048)) fun i hi => by rw [lv3]
  | 17, _ =>
    show E32 (bitsN t.F) (bitsN s.F)
    unfold bitsN
    rw [bits_cg (x := fun i => bln (t.F (989 + i))) (y := fun i => bln (s.F (989 + i))) fun i hi => by rw [f _ (by omega) (by omega) (by omega) (by omega) (by omega) (by omega) (by omega) (by omega)]]
    exact .of rfl
  | 18, _ => exact at_cg 993 33 checkN (fun _ _ => checkN_cg) fun i hi => f _ (by omega) (by omega) (by omega) (by omega) (by omega) (by omega) (by omega) (by omega)
  | 19, _ => exact at_cg 1026 33 checkN (fun _ _ => checkN_cg) fun i hi => f _ (by omega) (by omega) (by omega) (by omega) (by omega) (by omega) (by omega) (by omega)
  | 20, _ => exact at_cg 1059 33 checkN (fun _ _ => checkN_cg) fun i hi => f _ (by omega) (by omega) (by omega) (by omega) (by omega) (by omega) (by omega) (by omega)
  | 21, _ => exact tr 4 (by omega) (dep 16384) (Nat.le_trans (by unfold lvC lvG; simp; omega) (dep_ge 16384)) fun i hi => by rw [lv4]
  | 22, _ => exact at_cg 1093 432 commN (fun _ _ => commN_cg) fun i hi => f _ (by omega) (by omega) (by omega) (by omega) (by omega) (by omega) (by omega) (by omega)
  | 23, _ => exact at_cg 1525 432 commN (fun _ _ => commN_cg) fun i hi => f _ (by omega) (by omega) (by omega) (by omega) (by omega) (by omega) (by omega) (by omega)
  | k + 24, h => exact absurd h (by omega)
end Go.Proofs.YtomilckcgmhfcaaDoor
