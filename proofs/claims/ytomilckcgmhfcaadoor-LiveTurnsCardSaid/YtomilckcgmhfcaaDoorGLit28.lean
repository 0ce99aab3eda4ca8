/- Lemmas that the proof stands on. -/
import Derived.Test.YtomilckcgmhfcaaDoorGLit27
namespace Go.Proofs.YtomilckcgmhfcaaDoor
set_option maxRecDepth 40000
set_option maxHeartbeats 64000000
open Go.RowKit
namespace StRoot2
theorem zfl (vs : Array Value) (w : World) : (callFunc 31 vs).run Tryd.prog w = .ok (.enter 31 vs) w := by kernel_rfl
theorem zh9 (vs : Array Value) (w : World) : (callFunc 53 vs).run Tryd.prog w = .ok (.enter 53 vs) w := by kernel_rfl
theorem zrd (s : StV) : lmixN (treeN (dep 65536) s.nV (valX s.V)) s.nV = stC s 11 := by
 show _ = lmixN (treeN (dep 65536) (lvC 0 s.nV) (lvX s 0)) s.nV
 rw [show lvC 0 s.nV = s.nV by unfold lvC lvG; simp]; rfl
theorem zpa {s : StV} (h : RightF s) : lmixN (treeN (dep ((65536 + 3) / 4)) (nch (8 * s.nB)) (padN (8 * s.nB) (LiveSmall.leS fun i => nat (s.Bal i)))) s.nB = stC s 12 := by
 show _ = lmixN (treeN (dep 16384) (lvC 1 s.nV) (lvX s 1)) s.nV
 have h1 := h.nB
 rw [show nch (8 * s.nB) = lvC 1 s.nV by unfold nch lvC lvG; simp; omega]
 conv => lhs; arg 2; rw [h1]
 rfl
theorem zno {s : StV} (h : RightF s) : lmixN (treeN (dep 2048) (nch s.nP) (padN s.nP (b8 s.Prv))) s.nP = stC s 15 := by
 show _ = lmixN (treeN (dep 2048) (lvC 2 s.nV) (lvX s 2)) s.nV
 have h1 := h.nP
 rw [show nch s.nP = lvC 2 s.nV by unfold nch lvC lvG; simp; omega]
 conv => lhs; arg 2; rw [h1]
 rfl
theorem znp {s : StV} (h : RightF s) : lmixN (treeN (dep 2048) (nch s.nC) (padN s.nC (b8 s.Cur))) s.nC = stC s 16 := by
 show _ = lmixN (treeN (dep 2048) (lvC 3 s.nV) (lvX s 3)) s.nV
 have h1 := h.nC
 rw [show nch s.nC = lvC 3 s.nV by unfold nch lvC lvG; simp; omega]
 conv => lhs; arg 2; rw [h1]
 rfl
end StRoot2
open StRoot2 in
theorem znq (w w0 : World) (B base g xb : Nat) (s : StV) (hc : RC w B base g xb s) (hz : RZ w B base g s 10 w0) :
 Calls Tryd.prog 38 #[.pointer (some ⟨g, 0, none⟩), .pointer (some ⟨xb, 0, none⟩)] w0 fun e w' => e = .returned (.tuple #[]) ∧ RZ w B base g s 21 w' := by
 have HC := Hd hc
 have HZ0 := Hd hz
 have tk1 : Tok 1 := Tok.mk 1
 have hnV : s.nV ≤ 65536 := HC.out.right.n
 have tk2 : Tok 2 := Tok.mk 2
 have tk3 : Tok 3 := Tok.mk 3
 have tk4 : Tok 4 := Tok.mk 4
 have tk5 : Tok 5 := Tok.mk 5
 have tk6 : Tok 6 := Tok.mk 6
 have tk7 : Tok 7 := Tok.mk 7
 have HB723 := Hd (zd7 HC.out.ok.sc 723 (8 * 32) (by kernel_rfl))
 have tk8 : Tok 8 := Tok.mk 8
 have tk9 : Tok 9 := Tok.mk 9
 have HW979 := Hd (zmv HC.out.ok.sc 979 8 (by kernel_rfl))
 have tk10 : Tok 10 := Tok.mk 10
 have tk11 : Tok 11 := Tok.mk 11
 have tk12 : Tok 12 := Tok.mk 12
 have tk13 : Tok 13 := Tok.mk 13
 have tk14 : Tok 14 := Tok.mk 14
 have tk15 : Tok 15 := Tok.mk 15
 have tk16 : Tok 16 := Tok.mk 16
 have tk17 : Tok 17 := Tok.mk 17
 have HBt : Hid (∀ i, i < 4 → s.F (989 + i) = .bool (bln (s.F (989 + i)))) := Hd (fun i hi => by rcases (show i = 0 ∨ i = 1 ∨ i = 2 ∨ i = 3 by omega) with rfl | rfl | rfl | rfl <;> exact HC.out.ok.sc.bool _ (by kernel_rfl))
 have tk18 : Tok 18 := Tok.mk 18
 have tk19 : Tok 19 := Tok.mk 19
 have HC993 := Hd (HC.out.ok.sc.at_ 993 33 42 (by kernel_rfl) (zbl (n := 33) Ty42 (by kernel_rfl)))
 have tk20 : Tok 20 := Tok.mk 20
 have tk21 : Tok 21 := Tok.mk 21
 have HC1026 := Hd (HC.out.ok.sc.at_ 1026 33 42 (by kernel_rfl) (zbl (n := 33) Ty42 (by kernel_rfl)))
 have tk22 : Tok 22 := Tok.mk 22
 have tk23 : Tok 23 := Tok.mk 23
 have HC1059 := Hd (HC.out.ok.sc.at_ 1059 33 42 (by kernel_rfl) (zbl (n := 33) Ty42 (by kernel_rfl)))
 have tk24 : Tok 24 := Tok.mk 24
 have tk25 : Tok 25 := Tok.mk 25
 clear hc hz
 go_enter Tryd.func38, Tryd.ntmps38
 go_wp2_with (first
  | ((with_reducible refine at_l ?_); first
   | (refine zab rfl 23 rfl (.int .u64 ((nat (s.F 720) : Nat) : Int)) ?_ ?_; (· exact zbf .u64 rfl rfl Ty22 ((HC.out.cell HZ0.out.bel 720 (by omega)).trans (congrArg some (HC.out.ok.sc.u64 720 (by kernel_rfl)).1))))
   | (refine zab rfl 28 rfl (.slice s.aV s.nV s.cV) ?_ ?_; (· exact zan rfl rfl Ty36 (HC.out.cell HZ1.out.bel 721 (by omega)) HC.out.ok.f11)))
  | (go_at_call 54; clear tk1; refine (RZ.u64 HC.out HZ0.out (by omega) (nat (s.F 720)) (fun _ _ => rfl)).mono ?_; rintro e w1 ⟨rfl, hz⟩; have HZ1 := Hd hz; clear hz))
 go_loopw [4, 30] (fun u i wr => ∃ (k : Nat) (A : Option Addr) (c : Nat), u = .slice A k c ∧ i = .int .i64 (k : Int) ∧ k ≤ s.nV ∧ OwnZ wr w1.heap.size 24 32 A k c (u8v (valX s.V)) ∧ Below w1.heap.size w1 wr) (fun _ i _ => s.nV - (intOf i).toNat)
 case atStart => exact ⟨0, none, 0, rfl, rfl, Nat.zero_le _, OwnZ.nil _ _ _ _ _, Below.refl _ _⟩
 case round =>
  obtain ⟨k, A, c, rfl, rfl, hk, ho, hb⟩ := hrel
  have HO := Hd ho
  have HB := Hd hb
  have hsz := hb.size
  clear ho hb
  by_cases h1 : k < s.nV
  ·obtain ⟨ad, hA, _, _⟩ := (HC.out.ok.rV : Rd w B s.aV (s.nV * 86) s.V) (by omega)
   have HCE := Hd (show ∀ q, q < 86 → wr.cell? ((ad.add (k * 86)).add q) = some ((fun q => s.V (k * 86 + q)) q) from fun q hq => by
    have h := (HC.out.ok' (thnB HZ1.out.bel HB.out (lT HC.out.hBw HZ1.out.bel.size))).rV.cell_' hA (k := k * 86 + q) (by omega)
    rw [zb1]; exact h)
   have HSE := Hd (HC.out.ok.scV k h1)
   have H1E := Hd (show ∀ q, q < 86 → (s.V (k * 86 + q)).oneCell' = true from fun q hq => StCopy.zei HC.out.ok.scV (by kernel_rfl) _ (by omega))
   rw [hA]
   clear hA
   go_wp2_with (first
    | ((with_reducible refine at_l ?_); first
     | (refine zab rfl 32 rfl (.pointer (some (ad.add (k * 86)))) ?_ ?_; (· exact zbb rfl rfl rfl (fun w => zaw (z := 86) w Ty36 (by kernel_rfl) ad h1) _))
     | (refine zae rfl 66 (.tmp 32) rfl 86 _ Ty66 rfl (by kernel_rfl) (ad.add (k * 86)) rfl (fun q => s.V (k * 86 + q)) HCE.out ?_)
     | (refine zae rfl 66 (.tmp 7) rfl 86 _ Ty66 rfl (by kernel_rfl) ⟨wr.heap.size, 0, none⟩ rfl (fun q => s.V (k * 86 + q)) (fun q hq => by rw [zai]; exact HR6.out.cell hq) ?_)
     | (refine zbu rfl Ty32 s24 (by omega) (by omega) z24 _ rfl (u8v (validN fun q => s.V (k * 86 + q))) rfl (HS.nil _) ?_; intro bS w8 hbS hcS hs; have HS8 := Hd hs; have HB8 := Hd (thnB HB7.out (hs.out (by simp; omega)) HB7.out.size); clear hs))
    | (refine zbk rfl rfl 66 66 7 (.tmp 33) rfl rfl rfl 86 (zeroOf Tryd.prog 66) (by kernel_rfl) (by kernel_rfl) (arr 86 (fun q => s.V (k * 86 + q))) rfl rfl (zam _ _) (by kernel_rfl) (fun q hq => ⟨_, zaq _ _ _ hq, H1E.out q hq⟩) (fun q => s.V (k * 86 + q)) (fun q hq => zaq _ _ _ hq) ?_; intro w6 hr6 hb6; have HR6 := Hd hr6; have HB6 := Hd hb6; clear hr6 hb6; simp only [pcX])
    | (go_at_call 60; refine (zj2 (fun q => s.V (k * 86 + q)) HSE.out _ (HC.out.sha' (thnB HZ1.out.bel (thnB HB.out HB6.out hsz) (lT HC.out.hBw HZ1.out.bel.size)))).mono ?_; rintro e w7 ⟨rfl, hb⟩; have HB7 := Hd (thnB HB6.out hb HB6.out.size); clear hb)
    | (at_builtin; refine zba _ (.tmp 34) (.tmp 37) 32 w1.heap.size i24 Ty32 (by rfl) (by omega) rfl rfl (k + 1) (u8v (valX s.V)) rfl rfl (HO.out.all HB8.out) (Rd.of_row (n := 1 * 32) (HS8.out.row 0 rfl) lR (HS8.out.lt 0 rfl)) (fun _ _ => rfl) rfl (zjj (valX s.V) k (validN fun q => s.V (k * 86 + q)) (fun q hq => by unfold valX; rw [show (k * 32 + q) / 32 = k by omega, show (k * 32 + q) % 32 = q by omega])) ⟨by omega, by omega⟩ (lT hsz HB8.out.size) ?_; intro A' c' w9 ho9 hg9 ha9; have HO9 := Hd ho9; have HG9 := Hd hg9; clear ho9 hg9 ha9))
   go_roundw
   case rel => exact ⟨k + 1, A', c', rfl, by go_num, by omega, HO9.out, za4 (thnB HB.out HB8.out hsz) HG9.out (lT hsz HB8.out.size) (fun ad e => (HO.out.base_le ad e).1)⟩
   case measure => simp [intOf]; omega
  ·obtain rfl : s.nV = k := by omega
   have HVR := Hd HO.out.rd
   have hcap := HO.out.cap
   obtain ⟨w2, hw2⟩ : ∃ w2 : World, w2 = wr := ⟨_, rfl⟩
   subst hw2
   have HZ2 := Hd (HZ1.out.loc HC.out HB.out)
   clear HO HB h1 hsz
   obtain ⟨XV, hXV⟩ : ∃ X, X = treeN (dep 65536) s.nV (valX s.V) := ⟨_, rfl⟩
   have HXV := Hd hXV
   have HXlV : Hid (∀ i, XV i < 256) := Hd (by rw [hXV]; exact za9 (zgr _) _ _)
   clear hXV
   obtain ⟨XB, hXB⟩ : ∃ X, X = treeN (dep ((65536 + 3) / 4)) (nch (8 * s.nB)) (padN (8 * s.nB) (LiveSmall.leS fun i => nat (s.Bal i))) := ⟨_, rfl⟩
   have HEB := Hd hXB
   have HXlB : Hid (∀ i, XB i < 256) := Hd (by rw [hXB]; exact za9 (za6 fun _ => zbq _ _) _ _)
   have HXB : Hid (lmixN XB s.nB = stC s 12) := Hd (by rw [hXB]; exact zpa HC.out.right)
   clear hXB
   have hcntB : s.nB ≤ 65536 := by have h1 := HC.out.right.nB; have h2 := HC.out.right.n; omega
   go_wp2_with (first
    | (go_at_call 25; clear tk2; refine (zd8 s.nV c A (valX s.V) 65536 _ HVR.out (zgr _) hcap (by omega) hnV (HC.out.sha' HZ2.out.bel)).mono ?_; rintro e w3 ⟨rfl, hb⟩; rw [← HXV.out]; have HZ3 := Hd (HZ2.out.loc HC.out hb); clear hb)
    | (clear tk3; refine zbk rfl rfl 24 24 8 (.tmp 46) rfl rfl rfl 32 (Array.replicate 32 (.int .u8 0)) (by kernel_rfl) (by rfl) (arr 32 (u8v XV)) rfl rfl (zam _ _) (by kernel_rfl) (fun q hq => ⟨_, zaq _ _ _ hq, rfl⟩) (u8v XV) (fun q hq => zaq _ _ _ hq) ?_; intro w4 hr hb; have HQ4 := Hd hr; have HZ4 := Hd (HZ3.out.loc HC.out hb); clear hr hb; simp only [pcX])
    | ((with_reducible refine at_l ?_); first
     | (refine zae rfl 24 (.tmp 8) rfl 32 _ Ty24 rfl s24 ⟨w3.heap.size, 0, none⟩ rfl (u8v XV) (fun q hq => by rw [zai]; exact HQ4.out.cell hq) ?_)
     | (refine zab rfl 52 rfl (.int .u64 (s.nV : Int)) ?_ ?_; (· exact zdc rfl rfl (fun w => by simp [go_sem, IntKind.wrap, IntKind.bits, IntKind.signed]; omega) _))
     | (refine zab rfl 59 rfl (.slice s.aB s.nB s.cB) ?_ ?_; (· exact zan rfl rfl Ty37 (HC.out.cell HZ6.out.bel 722 (by omega)) HC.out.ok.f12))
     | (refine zab rfl 69 rfl (.slice s.aB s.nB s.cB) ?_ ?_; (· exact zan rfl rfl Ty37 (HC.out.cell HZ6.out.bel 722 (by omega)) HC.out.ok.f12)))
    | (go_at_call 31; clear tk4; refine (zdk XV HXlV.out s.nV _ (HC.out.sha' HZ4.out.bel)).mono ?_; rintro e w5 ⟨rfl, hb⟩; have HZ5 := Hd (HZ4.out.loc HC.out hb); clear hb)
    | (go_at_call 53; clear tk5; refine (RZ.put HC.out HZ5.out (by omega) (lmixN XV s.nV) (fun q _ => by rw [HXV.out]; exact congrFun (zrd s) q)).mono ?_; rintro e w6 ⟨rfl, hz⟩; have HZ6 := Hd hz; clear hz)
    | (go_at_call 61; clear tk6; refine (zf6 s.nB s.cB 65536 s.aB (fun i => nat (s.Bal i)) _ (((HC.out.ok' HZ6.out.bel).rB.more (lT HC.out.hBw HZ6.out.bel.size)).congr (fun i hi => (HC.out.ok.scB i hi).1)) HC.out.ok.lB.1 (by omega) (by omega) (by omega) (HC.out.sha' HZ6.out.bel)).mono ?_; rintro e w7 ⟨rfl, hb⟩; rw [← HEB.out]; have HZ7 := Hd (HZ6.out.loc HC.out hb); clear hb)
    | (clear tk7; refine zbk rfl rfl 24 24 10 (.tmp 71) rfl rfl rfl 32 (Array.replicate 32 (.int .u8 0)) (by kernel_rfl) (by rfl) (arr 32 (u8v XB)) rfl rfl (zam _ _) (by kernel_rfl) (fun q hq => ⟨_, zaq _ _ _ hq, rfl⟩) (u8v XB) (fun q hq => zaq _ _ _ hq) ?_; intro w8 hr hb; have HQ8 := Hd hr; have HZ8 := Hd (HZ7.out.loc HC.out hb); clear hr hb; simp only [pcX]))
   refine zao (l := [_, _, _, _, _, _, _, _, _, _]) (tl := []) (B := w8.heap.size) (w0 := w8) [sI (.pointer (some ⟨g, 0, none⟩)), sI (rootV XB), sI (.pointer (some ⟨xb, 0, none⟩)), sI (.pointer (some ⟨xb, 0, none⟩)), sI (.pointer (some ⟨xb, 722, none⟩)), sI (.slice (s.aB) (s.nB) (s.cB)), sI (.int .i64 ((s.nB : Nat) : Int)), sI (.int .u64 ((s.nB : Nat) : Int)), sI (rootV (lmixN XB s.nB)), sI (.int .i64 0)] (by kernel_rfl) (by kernel_rfl) rfl lR (Below.refl _ _) ⟨?_, ?_, ?_, ?_, ?_, ?_, ?_, ?_, ?_, ?_, trivial⟩ ?_
   ·exact (zaa _ rfl (.inl rfl) rfl)
   ·exact zad rfl rfl (oT rfl) (fun w' hb => zax w' w7.heap.size 0 32 24 _ (u8v XB) (fun i hi => by rw [Nat.zero_add]; exact (zaj HQ8.out hb HQ8.out.lt).cell hi) Ty24 rfl s24)
   ·exact (zaa _ rfl (.inl rfl) rfl)
   ·exact zar _ rfl rfl (oT rfl)
   ·exact zal rfl rfl (oT rfl) (fun w => by simp [go_sem])
   ·exact zad rfl rfl (oT rfl) (fun w' hb => PickDraw.za3 w' _ _ _ _ ((HC.out.cell (HZ8.out.loc HC.out hb).bel 722 (by omega)).trans (congrArg some HC.out.ok.f12)) Ty37)
   ·exact zcw Ty37 rfl rfl (oT rfl)
   ·exact ze0 rfl rfl (oT rfl) (fun w => by simp [go_sem, IntKind.wrap, IntKind.bits, IntKind.signed]; omega)
   ·exact zbi zfl rfl rfl (oT rfl) (oT rfl) (fun w' hb => (zdk XB HXlB.out s.nB w' (HC.out.sha' (HZ8.out.loc HC.out hb).bel)).mono fun e w2 ⟨he, hb2⟩ => ⟨_, he, rfl, hb2⟩)
   ·exact (zaa _ rfl (.inl rfl) rfl)
   ·intro w' hb
    simp only [fin, sI, forall_eq]
    simp only [pcX]
    have HZ9 := Hd (HZ8.out.loc HC.out hb)
    clear hb
    refine zdm zh9 #[.pointer (some ⟨g, 0, none⟩), rootV (lmixN XB s.nB), .int .i64 0] rfl rfl ((RZ.put HC.out HZ9.out (by omega) (lmixN XB s.nB) (fun q _ => by rw [HXB.out])).mono ?_)
    rintro e w10 ⟨rfl, hz⟩
    refine ⟨_, rfl, ?_⟩
    have HZ10 := Hd hz
    clear hz
    simp only [seqWp, Act.put]
    go_wp2_with (first
     | ((with_reducible refine at_l ?_); first
      | (refine zac rfl 90 12 rfl rfl (HS.nil w10) _ zcp 2 (hashF none 0 0) (zam _ _) (fun i hi => zaq _ _ i hi) ?_; intro b12 w11 hb12 hc12 hs; have HL12 := Hd (LH.start (hs.row 0 rfl) (hs.out (by simp; omega)) hb12 (byF s.F 723)); have HZ11 := Hd (HZ10.out.loc HC.out (hs.out (by simp; omega))); clear hs)
      | (refine zag rfl 31 (.tmp 86) rfl xb 723 256 (u8v (byF s.F 723)) rfl _ (fun i hi => (HC.out.cell HZ11.out.bel (723 + i) (by omega)).trans (congrArg some (HB723.out i hi))) Ty31 rfl (by kernel_rfl) _ rfl ?_)))
    go_loopw [88] (fun i wr => ∃ j : Nat, i = .int .i64 (j : Int) ∧ j ≤ 8 ∧ LH w10 b12 (byF s.F 723) j wr) (fun i _ => 8 - (intOf i).toNat)
    case atStart => exact ⟨0, rfl, by omega, HL12.out⟩
    case round =>
     clear HL12
     obtain ⟨j, rfl, hj, hl⟩ := hrel
     have HL := Hd hl
     clear hl
     by_cases hj8 : j < 8
     ·go_wp2_with (first
       | ((with_reducible refine at_l ?_); first
        | (refine zab rfl 90 rfl (rootV (fun q => byF s.F 723 (j * 32 + q))) ?_ ?_; (· exact zdb rfl rfl rfl (fun w => zea w Ty31 (by kernel_rfl) Ty24 rfl (u8v (byF s.F 723)) j hj8 (by omega)) _))
        | (refine zae rfl 24 (.tmp 14) rfl 32 _ Ty24 rfl s24 ⟨wr.heap.size, 0, none⟩ rfl (u8v (fun q => byF s.F 723 (j * 32 + q))) (fun q hq => by rw [zai]; exact HR7.out.cell hq) ?_))
       | (refine zbk rfl rfl 24 24 14 (.tmp 90) rfl rfl rfl 32 (Array.replicate 32 (.int .u8 0)) (by kernel_rfl) (by rfl) (arr 32 (u8v (fun q => byF s.F 723 (j * 32 + q)))) rfl rfl (zam _ _) (by kernel_rfl) (fun q hq => ⟨_, zaq _ _ _ hq, rfl⟩) (u8v (fun q => byF s.F 723 (j * 32 + q))) (fun q hq => zaq _ _ _ hq) ?_; intro w7 hr7 hb7; have HR7 := Hd hr7; have HL7 := Hd (HL.out.loc hb7); clear hr7 hb7; simp only [pcX])
       | (go_at_call 53; refine (LH.put HL7.out (by omega) (fun q => byF s.F 723 (j * 32 + q)) (fun _ _ => rfl)).mono ?_; rintro e w8 ⟨rfl, hl⟩; have HL8 := Hd hl; clear hl))
      go_roundw
      case rel => exact ⟨j + 1, by go_num, by omega, HL8.out⟩
      case measure => simp [intOf]; omega
     ·obtain rfl : j = 8 := by omega
      obtain ⟨XP, hXP⟩ : ∃ X, X = treeN (dep 2048) (nch s.nP) (padN s.nP (b8 s.Prv)) := ⟨_, rfl⟩
      have HEP := Hd hXP
      have HXlP : Hid (∀ i, XP i < 256) := Hd (by rw [hXP]; exact za9 (za6 (zcz _)) _ _)
      have HXP : Hid (lmixN XP s.nP = stC s 15) := Hd (by rw [hXP]; exact zno HC.out.right)
      clear hXP
      have hcntP : s.nP ≤ 65536 := by have h1 := HC.out.right.nP; have h2 := HC.out.right.n; omega
      go_wp2_with (first
       | (go_at_call 40; clear tk8; refine (LH.done HL.out (HC.out.sha' HZ10.out.bel) (zbm _ _) (by omega) (by omega)).mono ?_; rintro e w12 ⟨rfl, hb⟩; have HZ12 := Hd (HZ10.out.loc HC.out hb); clear hb)
       | (go_at_call 53; clear tk9; refine (RZ.put HC.out HZ12.out (by omega) (treeN (dep 8) 8 (byF s.F 723)) (fun _ _ => rfl)).mono ?_; rintro e w13 ⟨rfl, hz⟩; have HZ13 := Hd hz; clear hz)
       | ((with_reducible refine at_l ?_); first
        | (refine zab rfl 103 rfl (.slice (some ⟨xb, 979, none⟩) 8 8) ?_ ?_; (· exact zi8 rfl rfl rfl rfl (fun w => zbp Ty38 1 (by kernel_rfl) none none xb 979 8 0 8 (by omega) (by omega) rfl rfl w) _))
        | (refine zab rfl 112 rfl (.slice s.aP s.nP s.cP) ?_ ?_; (· exact zan rfl rfl Ty39 (HC.out.cell HZ15.out.bel 987 (by omega)) HC.out.ok.f15)))
       | (go_at_call 61; clear tk10; refine (zf6 8 8 8 (some ⟨xb, 979, none⟩) (fun q => nat (at_ s.F 979 q)) _ (HC.out.rd HZ13.out.bel 979 8 (u64v fun q => nat (at_ s.F 979 q)) (by omega) HW979.out) (by omega) (by omega) (by omega) (by omega) (HC.out.sha' HZ13.out.bel)).mono ?_; rintro e w14 ⟨rfl, hb⟩; have HZ14 := Hd (HZ13.out.loc HC.out hb); clear hb)
       | (go_at_call 53; clear tk11; refine (RZ.put HC.out HZ14.out (by omega) (treeN (dep 2) 2 (numX 8 (at_ s.F 979))) (fun _ _ => rfl)).mono ?_; rintro e w15 ⟨rfl, hz⟩; have HZ15 := Hd hz; clear hz)
       | (go_at_call 62; clear tk12; refine (zgc s.nP s.cP s.aP (b8 s.Prv) _ (((HC.out.ok' HZ15.out.bel).rP.more (lT HC.out.hBw HZ15.out.bel.size)).congr (fun i hi => zhe (HC.out.ok.scP i hi))) HC.out.ok.lP.1 (by omega)).mono ?_; rintro e w16 ⟨AP, cP, rfl, ho, hb⟩; have HOP := Hd ho; have HZ16 := Hd (HZ15.out.loc HC.out hb); clear ho hb)
       | (go_at_call 25; clear tk13; have hcp := HOP.out.cap; refine (zd8 (nch s.nP) cP AP (padN s.nP (b8 s.Prv)) 2048 _ HOP.out.rd (za6 (zcz _)) hcp (by omega) (by unfold nch; omega) (HC.out.sha' HZ16.out.bel)).mono ?_; rintro e w17 ⟨rfl, hb⟩; rw [← HEP.out]; have HZ17 := Hd (HZ16.out.loc HC.out hb); clear hb HOP hcp)
       | (clear tk14; refine zbk rfl rfl 24 24 15 (.tmp 115) rfl rfl rfl 32 (Array.replicate 32 (.int .u8 0)) (by kernel_rfl) (by rfl) (arr 32 (u8v XP)) rfl rfl (zam _ _) (by kernel_rfl) (fun q hq => ⟨_, zaq _ _ _ hq, rfl⟩) (u8v XP) (fun q hq => zaq _ _ _ hq) ?_; intro w18 hr hb; have HQ18 := Hd hr; have HZ18 := Hd (HZ17.out.loc HC.out hb); clear hr hb; simp only [pcX]))
      refine zao (l := [_, _, _, _, _, _, _, _, _, _]) (tl := []) (B := w18.heap.size) (w0 := w18) [sI (.pointer (some ⟨g, 0, none⟩)), sI (rootV XP), sI (.pointer (some ⟨xb, 0, none⟩)), sI (.pointer (some ⟨xb, 0, none⟩)), sI (.pointer (some ⟨xb, 987, none⟩)), sI (.slice (s.aP) (s.nP) (s.cP)), sI (.int .i64 ((s.nP : Nat) : Int)), sI (.int .u64 ((s.nP : Nat) : Int)), sI (rootV (lmixN XP s.nP)), sI (.int .i64 0)] (by kernel_rfl) (by kernel_rfl) rfl lR (Below.refl _ _) ⟨?_, ?_, ?_, ?_, ?_, ?_, ?_, ?_, ?_, ?_, trivial⟩ ?_
      ·exact (zaa _ rfl (.inl rfl) rfl)
      ·exact zad rfl rfl (oT rfl) (fun w' hb => zax w' w17.heap.size 0 32 24 _ (u8v XP) (fun i hi => by rw [Nat.zero_add]; exact (zaj HQ18.out hb HQ18.out.lt).cell hi) Ty24 rfl s24)
      ·exact (zaa _ rfl (.inl rfl) rfl)
      ·exact zar _ rfl rfl (oT rfl)
      ·exact zal rfl rfl (oT rfl) (fun w => by simp [go_sem])
      ·exact zad rfl rfl (oT rfl) (fun w' hb => PickDraw.za3 w' _ _ _ _ ((HC.out.cell (HZ18.out.loc HC.out hb).bel 987 (by omega)).trans (congrArg some HC.out.ok.f15)) Ty39)
      ·exact zcw Ty39 rfl rfl (oT rfl)
      ·exact ze0 rfl rfl (oT rfl) (fun w => by simp [go_sem, IntKind.wrap, IntKind.bits, IntKind.signed]; omega)
      ·exact zbi zfl rfl rfl (oT rfl) (oT rfl) (fun w' hb => (zdk XP HXlP.out s.nP w' (HC.out.sha' (HZ18.out.loc HC.out hb).bel)).mono fun e w2 ⟨he, hb2⟩ => ⟨_, he, rfl, hb2⟩)
      ·exact (zaa _ rfl (.inl rfl) rfl)
      ·intro w' hb
       simp only [fin, sI, forall_eq]
       simp only [pcX]
       have HZ19 := Hd (HZ18.out.loc HC.out hb)
       clear hb
       refine zdm zh9 #[.pointer (some ⟨g, 0, none⟩), rootV (lmixN XP s.nP), .int .i64 0] rfl rfl ((RZ.put HC.out HZ19.out (by omega) (lmixN XP s.nP) (fun q _ => by rw [HXP.out])).mono ?_)
       rintro e w20 ⟨rfl, hz⟩
       refine ⟨_, rfl, ?_⟩
       have HZ20 := Hd hz
       clear hz
       simp only [seqWp, Act.put]
       obtain ⟨XC, hXC⟩ : ∃ X, X = treeN (dep 2048) (nch s.nC) (padN s.nC (b8 s.Cur)) := ⟨_, rfl⟩
       have HEC := Hd hXC
       have HXlC : Hid (∀ i, XC i < 256) := Hd (by rw [hXC]; exact za9 (za6 (zcz _)) _ _)
       have HXC : Hid (lmixN XC s.nC = stC s 16) := Hd (by rw [hXC]; exact znp HC.out.right)
       clear hXC
       have hcntC : s.nC ≤ 65536 := by have h1 := HC.out.right.nC; have h2 := HC.out.right.n; omega
       go_wp2_with (first
        | ((with_reducible refine at_l ?_); refine zab rfl 132 rfl (.slice s.aC s.nC s.cC) ?_ ?_; (· exact zan rfl rfl Ty39 (HC.out.cell HZ20.out.bel 988 (by omega)) HC.out.ok.f16))
        | (go_at_call 62; clear tk15; refine (zgc s.nC s.cC s.aC (b8 s.Cur) _ (((HC.out.ok' HZ20.out.bel).rC.more (lT HC.out.hBw HZ20.out.bel.size)).congr (fun i hi => zhe (HC.out.ok.scC i hi))) HC.out.ok.lC.1 (by omega)).mono ?_; rintro e w21 ⟨AP, cP, rfl, ho, hb⟩; have HOP := Hd ho; have HZ21 := Hd (HZ20.out.loc HC.out hb); clear ho hb)
        | (go_at_call 25; clear tk16; have hcp := HOP.out.cap; refine (zd8 (nch s.nC) cP AP (padN s.nC (b8 s.Cur)) 2048 _ HOP.out.rd (za6 (zcz _)) hcp (by omega) (by unfold nch; omega) (HC.out.sha' HZ21.out.bel)).mono ?_; rintro e w22 ⟨rfl, hb⟩; rw [← HEC.out]; have HZ22 := Hd (HZ21.out.loc HC.out hb); clear hb HOP hcp)
        | (clear tk17; refine zbk rfl rfl 24 24 17 (.tmp 135) rfl rfl rfl 32 (Array.replicate 32 (.int .u8 0)) (by kernel_rfl) (by rfl) (arr 32 (u8v XC)) rfl rfl (zam _ _) (by kernel_rfl) (fun q hq => ⟨_, zaq _ _ _ hq, rfl⟩) (u8v XC) (fun q hq => zaq _ _ _ hq) ?_; intro w23 hr hb; have HQ23 := Hd hr; have HZ23 := Hd (HZ22.out.loc HC.out hb); clear hr hb; simp only [pcX]))
       refine zao (l := [_, _, _, _, _, _, _, _, _, _]) (tl := []) (B := w23.heap.size) (w0 := w23) [sI (.pointer (some ⟨g, 0, none⟩)), sI (rootV XC), sI (.pointer (some ⟨xb, 0, none⟩)), sI (.pointer (some ⟨xb, 0, none⟩)), sI (.pointer (some ⟨xb, 988, none⟩)), sI (.slice (s.aC) (s.nC) (s.cC)), sI (.int .i64 ((s.nC : Nat) : Int)), sI (.int .u64 ((s.nC : Nat) : Int)), sI (rootV (lmixN XC s.nC)), sI (.int .i64 0)] (by kernel_rfl) (by kernel_rfl) rfl lR (Below.refl _ _) ⟨?_, ?_, ?_, ?_, ?_, ?_, ?_, ?_, ?_, ?_, trivial⟩ ?_
       ·exact (zaa _ rfl (.inl rfl) rfl)
       ·exact zad rfl rfl (oT rfl) (fun w' hb => zax w' w22.heap.size 0 32 24 _ (u8v XC) (fun i hi => by rw [Nat.zero_add]; exact (zaj HQ23.out hb HQ23.out.lt).cell hi) Ty24 rfl s24)
       ·exact (zaa _ rfl (.inl rfl) rfl)
       ·exact zar _ rfl rfl (oT rfl)
       ·exact zal rfl rfl (oT rfl) (fun w => by simp [go_sem])
       ·exact zad rfl rfl (oT rfl) (fun w' hb => PickDraw.za3 w' _ _ _ _ ((HC.out.cell (HZ23.out.loc HC.out hb).bel 988 (by omega)).trans (congrArg some HC.out.ok.f16)) Ty39)
       ·exact zcw Ty39 rfl rfl (oT rfl)
       ·exact ze0 rfl rfl (oT rfl) (fun w => by simp [go_sem, IntKind.wrap, IntKind.bits, IntKind.signed]; omega)
       ·exact zbi zfl rfl rfl (oT rfl) (oT rfl) (fun w' hb => (zdk XC HXlC.out s.nC w' (HC.out.sha' (HZ23.out.loc HC.out hb).bel)).mono fun e w2 ⟨he, hb2⟩ => ⟨_, he, rfl, hb2⟩)
       ·exact (zaa _ rfl (.inl rfl) rfl)
       ·intro w' hb
        simp only [fin, sI, forall_eq]
        simp only [pcX]
        have HZ24 := Hd (HZ23.out.loc HC.out hb)
        clear hb
        refine zdm zh9 #[.pointer (some ⟨g, 0, none⟩), rootV (lmixN XC s.nC), .int .i64 0] rfl rfl ((RZ.put HC.out HZ24.out (by omega) (lmixN XC s.nC) (fun q _ => by rw [HXC.out])).mono ?_)
        rintro e w25 ⟨rfl, hz⟩
        refine ⟨_, rfl, ?_⟩
        have HZ25 := Hd hz
        clear hz
        simp only [seqWp, Act.put]
        go_wp2_with (first
         | ((with_reducible refine at_l ?_); first
          | (refine zab rfl 152 rfl (.slice (some ⟨xb, 989, none⟩) 4 4) ?_ ?_; (· exact zi8 rfl rfl rfl rfl (fun w => zbp Tryd.underlying40 1 (by kernel_rfl) none none xb 989 4 0 4 (by omega) (by omega) rfl rfl w) _))
          | (refine zag rfl 42 (.tmp 158) rfl xb 993 33 (at_ s.F 993) rfl _ (fun i hi => HC.out.cell HZ27.out.bel (993 + i) (by omega)) Ty42 rfl (by kernel_rfl) _ rfl ?_)
          | (refine zag rfl 42 (.tmp 165) rfl xb 1026 33 (at_ s.F 1026) rfl _ (fun i hi => HC.out.cell HZ29.out.bel (1026 + i) (by omega)) Ty42 rfl (by kernel_rfl) _ rfl ?_)
          | (refine zag rfl 42 (.tmp 172) rfl xb 1059 33 (at_ s.F 1059) rfl _ (fun i hi => HC.out.cell HZ31.out.bel (1059 + i) (by omega)) Ty42 rfl (by kernel_rfl) _ rfl ?_))
         | (go_at_call 63; clear tk18; refine (zo9 _ 4 4 (some ⟨xb, 989, none⟩) (fun i => bln (s.F (989 + i))) _ (HC.out.rd HZ25.out.bel 989 4 (fun i => .bool (bln (s.F (989 + i)))) (by omega) HBt.out) lR (by omega)).mono ?_; rintro e w26 ⟨gb, rfl, hgb, hrb, hb⟩; have HRb := Hd hrb; have HZ26 := Hd (HZ25.out.loc HC.out hb); clear hb hrb)
         | (go_at_call 56; clear tk19; refine (RZ.bytes HC.out HZ26.out (by omega) 1 1 (some ⟨gb, 0, none⟩) (byteOf (fun i => bln (s.F (989 + i))) 4) (Rd.of_row HRb.out lR HRb.out.lt) (zh4 _ _) (by omega) (by omega) (by omega) (fun _ _ => rfl)).mono ?_; rintro e w27 ⟨rfl, hz⟩; have HZ27 := Hd hz; clear hz)
         | (go_at_call 35; clear tk20; refine (zd9 (at_ s.F 993) HC993.out _ (HC.out.sha' HZ27.out.bel)).mono ?_; rintro e w28 ⟨rfl, hb⟩; have HZ28 := Hd (HZ27.out.loc HC.out hb); clear hb)
         | (go_at_call 53; clear tk21; refine (RZ.put HC.out HZ28.out (by omega) (checkN (at_ s.F 993)) (fun _ _ => rfl)).mono ?_; rintro e w29 ⟨rfl, hz⟩; have HZ29 := Hd hz; clear hz)
         | (go_at_call 35; clear tk22; refine (zd9 (at_ s.F 1026) HC1026.out _ (HC.out.sha' HZ29.out.bel)).mono ?_; rintro e w30 ⟨rfl, hb⟩; have HZ30 := Hd (HZ29.out.loc HC.out hb); clear hb)
         | (go_at_call 53; clear tk23; refine (RZ.put HC.out HZ30.out (by omega) (checkN (at_ s.F 1026)) (fun _ _ => rfl)).mono ?_; rintro e w31 ⟨rfl, hz⟩; have HZ31 := Hd hz; clear hz)
         | (go_at_call 35; clear tk24; refine (zd9 (at_ s.F 1059) HC1059.out _ (HC.out.sha' HZ31.out.bel)).mono ?_; rintro e w32 ⟨rfl, hb⟩; have HZ32 := Hd (HZ31.out.loc HC.out hb); clear hb)
         | (go_at_call 53; clear tk25; refine (RZ.put HC.out HZ32.out (by omega) (checkN (at_ s.F 1059)) (fun _ _ => rfl)).mono ?_; rintro e w33 ⟨rfl, hz⟩; have HZ33 := Hd hz; clear hz))
        go_end0
        exact ⟨rfl, HZ33.out⟩
namespace StRoot3
theorem zfl (vs : Array Value) (w : World) : (callFunc 31 vs).run Tryd.prog w = .ok (.enter 31 vs) w := by kernel_rfl
theorem zh9 (vs : Array Value) (w : World) : (callFunc 53 vs).run Tryd.prog w = .ok (.enter 53 vs) w := by kernel_rfl
theorem zpb {s : StV} (h : RightF s) : lmixN (treeN (dep ((65536 + 3) / 4)) (nch (8 * s.nS)) (padN (8 * s.nS) (LiveSmall.leS fun i => nat (s.Sco i)))) s.nS = stC s 21 := by
 show _ = lmixN (treeN (dep 16384) (lvC 4 s.nV) (lvX s 4)) s.nV
 have h1 := h.nS
 rw [show nch (8 * s.nS) = lvC 4 s.nV by unfold nch lvC lvG; simp; omega]
 conv => lhs; arg 2; rw [h1]
 rfl
end StRoot3
open StRoot3 in
theorem znr (w w0 : World) (B base g xb : Nat) (s : StV) (hc : RC w B base g xb s) (hz : RZ w B base g s 21 w0) :
 Calls Tryd.prog 39 #[.pointer (some ⟨g, 0, none⟩), .pointer (some ⟨xb, 0, none⟩)] w0 fun e w' => e = .returned (.tuple #[]) ∧ RZ w B base g s 24 w' := by
 have HC := Hd hc
 have HZ0 := Hd hz
 have tk1 : Tok 1 := Tok.mk 1
 have tk2 : Tok 2 := Tok.mk 2
 have HC1093 := Hd (HC.out.ok.sc.at_ 1093 432 47 (by kernel_rfl) (zbl (n := 432) Ty47 (by kernel_rfl)))
 have tk3 : Tok 3 := Tok.mk 3
 have tk4 : Tok 4 := Tok.mk 4
 have HC1525 := Hd (HC.out.ok.sc.at_ 1525 432 47 (by kernel_rfl) (zbl (n := 432) Ty47 (by kernel_rfl)))
 have tk5 : Tok 5 := Tok.mk 5
 have tk6 : Tok 6 := Tok.mk 6
 clear hc hz
 go_enter Tryd.func39, Tryd.ntmps39
 obtain ⟨XS, hXS⟩ : ∃ X, X = treeN (dep ((65536 + 3) / 4)) (nch (8 * s.nS)) (padN (8 * s.nS) (LiveSmall.leS fun i => nat (s.Sco i))) := ⟨_, rfl⟩
 have HES := Hd hXS
 have HXlS : Hid (∀ i, XS i < 256) := Hd (by rw [hXS]; exact za9 (za6 fun _ => zbq _ _) _ _)
 have HXS : Hid (lmixN XS s.nS = stC s 21) := Hd (by rw [hXS]; exact zpb HC.out.right)
 clear hXS
 have hcntS : s.nS ≤ 65536 := by have h1 := HC.out.right.nS; have h2 := HC.out.right.n; omega
 go_wp2_with (first
  | ((with_reducible refine at_l ?_); first
   | (refine zab rfl 9 rfl (.slice s.aS s.nS s.cS) ?_ ?_; (· exact zan rfl rfl Ty37 (HC.out.cell HZ0.out.bel 1092 (by omega)) HC.out.ok.f21))
   | (refine zab rfl 19 rfl (.slice s.aS s.nS s.cS) ?_ ?_; (· exact zan rfl rfl Ty37 (HC.out.cell HZ0.out.bel 1092 (by omega)) HC.out.ok.f21)))
  | (go_at_call 61; clear tk1; refine (zf6 s.nS s.cS 65536 s.aS (fun i => nat (s.Sco i)) _ (((HC.out.ok' HZ0.out.bel).rS.more (lT HC.out.hBw HZ0.out.bel.size)).congr (fun i hi => (HC.out.ok.scS i hi).1)) HC.out.ok.lS.1 (by omega) (by omega) (by omega) (HC.out.sha' HZ0.out.bel)).mono ?_; rintro e w1 ⟨rfl, hb⟩; rw [← HES.out]; have HZ1 := Hd (HZ0.out.loc HC.out hb); clear hb)
  | (clear tk2; refine zbk rfl rfl 24 24 4 (.tmp 21) rfl rfl rfl 32 (Array.replicate 32 (.int .u8 0)) (by kernel_rfl) (by rfl) (arr 32 (u8v XS)) rfl rfl (zam _ _) (by kernel_rfl) (fun q hq => ⟨_, zaq _ _ _ hq, rfl⟩) (u8v XS) (fun q hq => zaq _ _ _ hq) ?_; intro w2 hr hb; have HQ2 := Hd hr; have HZ2 := Hd (HZ1.out.loc HC.out hb); clear hr hb; simp only [pcX]))
 refine zao (l := [_, _, _, _, _, _, _, _, _, _]) (tl := []) (B := w2.heap.size) (w0 := w2) [sI (.pointer (some ⟨g, 0, none⟩)), sI (rootV XS), sI (.pointer (some ⟨xb, 0, none⟩)), sI (.pointer (some ⟨xb, 0, none⟩)), sI (.pointer (some ⟨xb, 1092, none⟩)), sI (.slice (s.aS) (s.nS) (s.cS)), sI (.int .i64 ((s.nS : Nat) : Int)), sI (.int .u64 ((s.nS : Nat) : Int)), sI (rootV (lmixN XS s.nS)), sI (.int .i64 0)] (by kernel_rfl) (by kernel_rfl) rfl lR (Below.refl _ _) ⟨?_, ?_, ?_, ?_, ?_, ?_, ?_, ?_, ?_, ?_, trivial⟩ ?_
 ·exact (zaa _ rfl (.inl rfl) rfl)
 ·exact zad rfl rfl (oT rfl) (fun w' hb => zax w' w1.heap.size 0 32 24 _ (u8v XS) (fun i hi => by rw [Nat.zero_add]; exact (zaj HQ2.out hb HQ2.out.lt).cell hi) Ty24 rfl s24)
 ·exact (zaa _ rfl (.inl rfl) rfl)
 ·exact zar _ rfl rfl (oT rfl)
 ·exact zal rfl rfl (oT rfl) (fun w => by simp [go_sem])
 ·exact zad rfl rfl (oT rfl) (fun w' hb => PickDraw.za3 w' _ _ _ _ ((HC.out.cell (HZ2.out.loc HC.out hb).bel 1092 (by omega)).trans (congrArg some HC.out.ok.f21)) Ty37)
 ·exact zcw Ty37 rfl rfl (oT rfl)
 ·exact ze0 rfl rfl (oT rfl) (fun w => by simp [go_sem, IntKind.wrap, IntKind.bits, IntKind.signed]; omega)
 ·exact zbi zfl rfl rfl (oT rfl) (oT rfl) (fun w' hb => (zdk XS HXlS.out s.nS w' (HC.out.sha' (HZ2.out.loc HC.out hb).bel)).mono fun e w2 ⟨he, hb2⟩ => ⟨_, he, rfl, hb2⟩)
 ·exact (zaa _ rfl (.inl rfl) rfl)
 ·intro w' hb
  simp only [fin, sI, forall_eq]
  simp only [pcX]
  have HZ3 := Hd (HZ2.out.loc HC.out hb)
  clear hb
  refine zdm zh9 #[.pointer (some ⟨g, 0, none⟩), rootV (lmixN XS s.nS), .int .i64 0] rfl rfl ((RZ.put HC.out HZ3.out (by omega) (lmixN XS s.nS) (fun q _ => by rw [HXS.out])).mono ?_)
  rintro e w4 ⟨rfl, hz⟩
  refine ⟨_, rfl, ?_⟩
  have HZ4 := Hd hz
  clear hz
  simp only [seqWp, Act.put]
  go_wp2_with (first
   | ((with_reducible refine at_l ?_); first
    | (refine zag rfl 47 (.tmp 37) rfl xb 1093 432 (at_ s.F 1093) rfl _ (fun i hi => HC.out.cell HZ4.out.bel (1093 + i) (by omega)) Ty47 rfl (by kernel_rfl) _ rfl ?_)
    | (refine zag rfl 47 (.tmp 44) rfl xb 1525 432 (at_ s.F 1525) rfl _ (fun i hi => HC.out.cell HZ6.out.bel (1525 + i) (by omega)) Ty47 rfl (by kernel_rfl) _ rfl ?_))
   | (go_at_call 36; clear tk3; refine (zgf (at_ s.F 1093) HC1093.out _ (HC.out.sha' HZ4.out.bel)).mono ?_; rintro e w5 ⟨rfl, hb⟩; have HZ5 := Hd (HZ4.out.loc HC.out hb); clear hb)
   | (go_at_call 53; clear tk4; refine (RZ.put HC.out HZ5.out (by omega) (commN (at_ s.F 1093)) (fun _ _ => rfl)).mono ?_; rintro e w6 ⟨rfl, hz⟩; have HZ6 := Hd hz; clear hz)
   | (go_at_call 36; clear tk5; refine (zgf (at_ s.F 1525) HC1525.out _ (HC.out.sha' HZ6.out.bel)).mono ?_; rintro e w7 ⟨rfl, hb⟩; have HZ7 := Hd (HZ6.out.loc HC.out hb); clear hb)
   | (go_at_call 53; clear tk6; refine (RZ.put HC.out HZ7.out (by omega) (commN (at_ s.F 1525)) (fun _ _ => rfl)).mono ?_; rintro e w8 ⟨rfl, hz⟩; have HZ8 := Hd hz; clear hz))
  go_end0
  exact ⟨rfl, HZ8.out⟩
theorem zkn (s : StV) (w : World) (hS : StOk w w.heap.size s) (hR : RightF s) (hp : ShaPkg w) :
 Calls Tryd.prog 12 #[.agg (arr 1957 s.F)] w fun e w' => e = .returned (.tuple #[rootV (stN s), .int .i64 0]) ∧ Below w.heap.size w w' := by
 have HSt := Hd hS
 have HR := Hd hR
 have HP := Hd hp
 have HS0 := Hd (HS.nil w)
 have hpl := hp.lt
 obtain ⟨X, hX⟩ : ∃ X, X = stN s := ⟨_, rfl⟩
 have HX := Hd hX
 rw [← hX]
 clear hS hR hp hX
 go_enter Tryd.func12, Tryd.ntmps12
 go_upto_region 1 with (first
  | ((with_reducible refine at_l ?_); first
   | (refine zaz rfl 49 _ 1 rfl rfl HS0.out 1957 s.F rfl ?_; intro b1 w1 hb1 hc1 hs1; have HS1 := Hd hs1; clear hs1)
   | (refine zac rfl 24 2 rfl rfl HS1.out _ z24 32 (u8v fun _ => 0) n24 f24 ?_; intro b2 wB hb2 hc2 hs; have HSB := Hd hs; clear hs)))
 have hlb1 : b1 < wB.heap.size := HSB.out.lt 1 rfl
 have hszB := HSB.out.size
 go_upto_region 2 with (first
  | ((with_reducible refine at_l ?_); refine zac rfl 90 4 rfl rfl (HS.nil wB) _ zcp 2 (hashF none 0 0) (zam _ _) (fun i hi => zaq _ _ i hi) ?_; intro b4 w3 hb4 hc4 hs; have HR4 := Hd (hs.row 0 rfl); have HB4 := Hd (hs.out (by simp; omega)); clear hs))
 have HS3 := Hd (HSB.out.below HB4.out)
 have HC : Hid (RC w3 wB.heap.size wB.heap.size b4 b1 s) := Hd ⟨HS3.out.row 1 rfl, hlb1, (HSt.out.below (HS3.out.out (by simp; omega))).more hszB, HR.out, HP.out.below (HS3.out.out (by simp; omega)), by omega, Nat.le_refl _, hb4, HB4.out.size⟩
 have HZ0 : Hid (RZ w3 wB.heap.size wB.heap.size b4 s 0 w3) := Hd ⟨⟨none, 0, HR4.out, OwnZ.nil w3 _ _ _ _, fun ad e => by cases e⟩, Below.refl _ _⟩
 go_wp2_with (first
  | (go_at_call 37; refine (znn w3 _ wB.heap.size wB.heap.size b4 b1 s HC.out HZ0.out).mono ?_; rintro e w4 ⟨rfl, hz⟩; have HZ1 := Hd hz; clear hz)
  | (go_at_call 38; refine (znq w3 _ wB.heap.size wB.heap.size b4 b1 s HC.out HZ1.out).mono ?_; rintro e w5 ⟨rfl, hz⟩; have HZ2 := Hd hz; clear hz)
  | (go_at_call 39; refine (znr w3 _ wB.heap.size wB.heap.size b4 b1 s HC.out HZ2.out).mono ?_; rintro e w6 ⟨rfl, hz⟩; have HZ3 := Hd hz; clear hz)
  | (go_at_call 40; refine (zc2 wB.heap.size wB.heap.size b4 24 (stX s) _ HZ3.out.hash (zmr s) lR hb4 (lT HB4.out.size HZ3.out.bel.size) (by omega) (by omega) (HC.out.sha' HZ3.out.bel) HC.out.shaB).mono ?_; rintro e w7 ⟨rfl, hb⟩; rw [show treeN (dep 24) 24 (stX s) = X from HX.out.symm]; have HS7 := Hd (HSB.out.below (HB4.out.trans (HZ3.out.bel.trans hb))); clear hb)
  | ((with_reducible refine at_l ?_); refine zaf rfl 24 (.tmp 2) (.tmp 9) rfl HS7.out 0 rfl (u8v X) rfl rfl (by kernel_rfl) (fun _ _ => rfl) ?_; intro wy hs; have HY := Hd hs; clear hs))
 exact zb4 rfl (HY.out.row 0 rfl) _ (.int .i64 0) rfl rfl Ty24 rfl s24 rfl ⟨rfl, HY.out.out (by simp; omega)⟩
def E32 (x y : Nat → Nat) : Prop := ∀ q, q < 32 → x q = y q
theorem E32.of {x y : Nat → Nat} (h : x = y) : E32 x y := fun q _ => congrFun h q
theorem zcs {d n : Nat} {x y : Nat → Nat} (hn : n ≤ 2 ^ d) (h : ∀ i, i < n * 32 → x i = y i) : E32 (treeN d n x) (treeN d n y) := fun i hi => by
 rw [zfh d n x hn i hi, zfh d n y hn i hi]
 refine zc0 d _ _ (fun j _ => ?_) i hi
 unfold padN
 by_cases hj : j < n * 32
 ·rw [if_pos hj, if_pos hj, h j hj]
 ·rw [if_neg hj, if_neg hj]
theorem zcd (k : Nat) {x y r r' : Nat → Nat} (hx : ∀ i, i < k * 32 → x i = y i) (hr : E32 r r') : ∀ i, i < (k + 1) * 32 → catN (k * 32) x r i = catN (k * 32) y r' i := fun i hi => by
 unfold catN
 by_cases h : i < k * 32
 ·rw [if_pos h, if_pos h, hx i h]
 ·rw [if_neg h, if_neg h, hr _ (by omega)]
theorem zgu {F G : Nat → Value} {o p m : Nat} (h : ∀ i, i < m → F (o + i) = G (p + i)) : bytN F o m = bytN G p m := by
 unfold bytN
 have e : padN m (byF F o) = padN m (byF G p) := by
  funext i
  unfold padN byF
  by_cases hi : i < m
  ·rw [if_pos hi, if_pos hi, h i hi]
  ·rw [if_neg hi, if_neg hi]
 rw [e]
theorem zev {F G : Nat → Value} {o n : Nat} (h : ∀ i, i < n → F (o + i) = G (o + i)) : ∀ i, i < n → byF F o i = byF G o i := fun i hi => by unfold byF; rw [h i hi]
theorem zc6 {F G : Nat → Value} {o : Nat} (h : F o = G o) : numN F o = numN G o := by unfold numN; rw [h]
theorem c0 {x y : Nat → Nat} : ∀ i, i < 0 * 32 → x i = y i := fun i hi => by omega
section
variable {F G : Nat → Value}
theorem zs4 (h : ∀ i, i < 9 → F i = G i) : E32 (forkN F) (forkN G) :=
 zcs (zb5 3) (zcd 2 (zcd 1 (zcd 0 c0 (.of (zgu fun i hi => h _ (by omega)))) (.of (zgu fun i hi => h _ (by omega)))) (.of (zc6 (h _ (by omega)))))
theorem zpc (h : ∀ i, i < 98 → F i = G i) : E32 (headerN F) (headerN G) :=
 zcs (zb5 5) (zcd 4 (zcd 3 (zcd 2 (zcd 1 (zcd 0 c0 (.of (zc6 (h _ (by omega))))) (.of (zc6 (h _ (by omega))))) (zev fun i hi => h _ (by omega))) (zev fun i hi => h _ (by omega))) (zev fun i hi => h _ (by omega)))
theorem zm5 (h : ∀ i, i < 65 → F i = G i) : E32 (eth1N F) (eth1N G) :=
 zcs (zb5 3) (zcd 2 (zcd 1 (zcd 0 c0 (zev fun i hi => h _ (by omega))) (.of (zc6 (h _ (by omega))))) (zev fun i hi => h _ (by omega)))
theorem zia (h : ∀ i, i < 33 → F i = G i) : E32 (checkN F) (checkN G) :=
 zcs (zb5 2) (zcd 1 (zcd 0 c0 (.of (zc6 (h _ (by omega))))) (zev fun i hi => h _ (by omega)))
theorem zlf (h : ∀ i, i < 86 → F i = G i) : E32 (validN F) (validN G) :=
 zcs (zb5 8) (zcd 7 (zcd 6 (zcd 5 (zcd 4 (zcd 3 (zcd 2 (zcd 1 (zcd 0 c0 (.of (zgu fun i hi => h _ (by omega)))) (zev fun i hi => h _ (by omega))) (.of (zc6 (h _ (by omega))))) (.of (by rw [h 81 (by omega)]))) (.of (zc6 (h _ (by omega))))) (.of (zc6 (h _ (by omega))))) (.of (zc6 (h _ (by omega))))) (.of (zc6 (h _ (by omega)))))
theorem zm6 (h : ∀ i, i < 432 → F i = G i) : E32 (commN F) (commN G) :=
 zcs (zb5 2) (zcd 1 (zcd 0 c0 (zcs (zb5 8) (fun i hi => by unfold keysX; rw [zgu (G := G) (p := i / 32 * 48) (fun j hj => h _ (by omega))]))) (.of (zgu fun i hi => h _ (by omega))))
end
theorem zko {r r' : Nat → Nat} (m : Nat) (h : E32 r r') : lmixN r m = lmixN r' m := by
 unfold lmixN
 refine zjp fun i hi => ?_
 unfold catN
 by_cases h1 : i < 32
 ·rw [if_pos h1, if_pos h1, h i h1]
 ·rw [if_neg h1, if_neg h1]
theorem zkp {n : Nat} {f g : Nat → Value} (h : ∀ i, i < n → f i = g i) : numX n f = numX n g := by
 funext i
 unfold numX padN LiveSmall.leS
 by_cases h1 : i < 8 * n
 ·rw [if_pos h1, if_pos h1]
  show leB (nat (f (i / 8))) _ = leB (nat (g (i / 8))) _
  rw [h (i / 8) (by omega)]
 ·rw [if_neg h1, if_neg h1]
theorem zoh {n : Nat} {f g : Nat → Value} (h : ∀ i, i < n → f i = g i) : bytX n f = bytX n g := by
 funext i
 unfold bytX padN b8
 by_cases h1 : i < n
 ·rw [if_pos h1, if_pos h1, h _ h1]
 ·rw [if_neg h1, if_neg h1]
theorem zvd {x y : Nat → Bool} (h : ∀ i, i < 4 → x i = y i) : byteOf x 4 = byteOf y 4 := by
 have e : ∀ n, n ≤ 4 → byteOf x n = byteOf y n := fun n => by
  induction n with
  | zero => intro _; funext j; rw [ze7, ze7]
  | succ n ih =>
   intro hn
   have h1 := ih (by omega)
   cases hx : x n with
   | false => funext j; rw [ze8 _ _ _ hx, ze8 _ _ _ (by rw [← h n (by omega)]; exact hx), h1]
   | true =>
    have hy : y n = true := by rw [← h n (by omega)]; exact hx
    funext j
    by_cases ej : j = n / 8
    ·subst ej; rw [(zeq x n hx).1, (zeq y n hy).1, h1]
    ·rw [zf4 _ _ _ ej, zf4 _ _ _ ej, h1]
 exact e 4 lR
structure SEq (s t : StV) : Prop where
 nV : t.nV = s.nV
 nB : t.nB = s.nB
 nP : t.nP = s.nP
 nC : t.nC = s.nC
 nS : t.nS = s.nS
 nH : t.nH = s.nH
 nE : t.nE = s.nE
 F : ∀ i, i < 1957 → i ≠ 653 → i ≠ 719 → i ≠ 721 → i ≠ 722 → i ≠ 987 → i ≠ 988 → i ≠ 1092 → t.F i = s.F i
 V : ∀ i, i < s.nV * 86 → t.V i = s.V i
 Bal : ∀ i, i < s.nB → t.Bal i = s.Bal i
 Prv : ∀ i, i < s.nP → t.Prv i = s.Prv i
 Cur : ∀ i, i < s.nC → t.Cur i = s.Cur i
 Sco : ∀ i, i < s.nS → t.Sco i = s.Sco i
 His : ∀ i, i < s.nH * 32 → t.His i = s.His i
 Vot : ∀ i, i < s.nE * 65 → t.Vot i = s.Vot i
theorem SameS.seq {s t : StV} (e : SameS s t) : SEq s t := ⟨e.nV, e.nB, e.nP, e.nC, e.nS, e.nH, e.nE, fun i _ => e.F i, fun i _ => by rw [e.V], fun i _ => by rw [e.Bal], fun i _ => by rw [e.Prv], fun i _ => by rw [e.Cur], fun i _ => by rw [e.Sco], fun i _ => by rw [e.His], fun i _ => by rw [e.Vot]⟩
theorem zre {s t : StV} (e : SEq s t) (hR : RightF s) (_hF : Sc s.F 49) : ∀ k, k < 24 → E32 (stC t k) (stC s k) := fun k hk => by
 have f : ∀ i, i < 1957 → i ≠ 653 → i ≠ 719 → i ≠ 721 → i ≠ 722 → i ≠ 987 → i ≠ 988 → i ≠ 1092 → t.F i = s.F i := e.F
 have at_cg : ∀ (o n : Nat) (g : (Nat → Value) → Nat → Nat), (∀ F G : Nat → Value, (∀ i, i < n → F i = G i) → E32 (g F) (g G)) → (∀ i, i < n → t.F (o + i) = s.F (o + i)) → E32 (g (at_ t.F o)) (g (at_ s.F o)) := fun o n g hg h => hg _ _ h
 have vec : ∀ o, (∀ i, i < 256 → t.F (o + i) = s.F (o + i)) → E32 (treeN (dep 8) 8 (byF t.F o)) (treeN (dep 8) 8 (byF s.F o)) := fun o h => zcs (zb5 8) (zev h)
 have tr : ∀ j, j < 5 → ∀ D, lvC j s.nV ≤ 2 ^ D → (∀ i, i < lvC j s.nV * 32 → lvX t j i = lvX s j i) → E32 (lmixN (treeN D (lvC j t.nV) (lvX t j)) t.nV) (lmixN (treeN D (lvC j s.nV) (lvX s j)) s.nV) := fun j _ D hD h => by
  rw [e.nV]; exact .of (zko _ (zcs hD h))
 have hn := hR.n
 have lv1 : lvX t 1 = lvX s 1 := by show numX t.nB t.Bal = numX s.nB s.Bal; rw [e.nB]; exact zkp e.Bal
 have lv2 : lvX t 2 = lvX s 2 := by show bytX t.nP t.Prv = bytX s.nP s.Prv; rw [e.nP]; exact zoh e.Prv
 have lv3 : lvX t 3 = lvX s 3 := by show bytX t.nC t.Cur = bytX s.nC s.Cur; rw [e.nC]; exact zoh e.Cur
 have lv4 : lvX t 4 = lvX s 4 := by show numX t.nS t.Sco = numX s.nS s.Sco; rw [e.nS]; exact zkp e.Sco
 match k, hk with
 | 0, _ => exact .of (zc6 (f 0 (by omega) (by omega) (by omega) (by omega) (by omega) (by omega) (by omega) (by omega)))
 | 1, _ => exact zev fun i hi => f _ (by omega) (by omega) (by omega) (by omega) (by omega) (by omega) (by omega) (by omega)
 | 2, _ => exact .of (zc6 (f 33 (by omega) (by omega) (by omega) (by omega) (by omega) (by omega) (by omega) (by omega)))
 | 3, _ => exact at_cg 34 9 forkN (fun _ _ => zs4) fun i hi => f _ (by omega) (by omega) (by omega) (by omega) (by omega) (by omega) (by omega) (by omega)
 | 4, _ => exact at_cg 43 98 headerN (fun _ _ => zpc) fun i hi => f _ (by omega) (by omega) (by omega) (by omega) (by omega) (by omega) (by omega) (by omega)
 | 5, _ => exact vec 141 fun i hi => f _ (by omega) (by omega) (by omega) (by omega) (by omega) (by omega) (by omega) (by omega)
 | 6, _ => exact vec 397 fun i hi => f _ (by omega) (by omega) (by omega) (by omega) (by omega) (by omega) (by omega) (by omega)
 | 7, _ =>
  show E32 (lmixN (treeN (dep 1024) t.nH (b8 t.His)) t.nH) (lmixN (treeN (dep 1024) s.nH (b8 s.His)) s.nH)
  rw [e.nH]
  exact .of (zko _ (zcs (lT hR.nH (zb5 1024)) fun i hi => by unfold b8; rw [e.His i hi]))
 | 8, _ => exact at_cg 654 65 eth1N (fun _ _ => zm5) fun i hi => f _ (by omega) (by omega) (by omega) (by omega) (by omega) (by omega) (by omega) (by omega)
 | 9, _ =>
  show E32 (lmixN (treeN (dep 8) t.nE (votX t.Vot)) t.nE) (lmixN (treeN (dep 8) s.nE (votX s.Vot)) s.nE)
  rw [e.nE]
  exact .of (zko _ (zcs (lT hR.nE (zb5 8)) fun i hi => zm5 (fun q hq => e.Vot _ (by omega)) _ (by omega)))
 | 10, _ => exact .of (zc6 (f 720 (by omega) (by omega) (by omega) (by omega) (by omega) (by omega) (by omega) (by omega)))
 | 11, _ => exact tr 0 (by omega) (dep 65536) (by unfold lvC lvG; simp; exact lT hn (zb5 65536)) (by
  intro i hi
  show valX t.V i = valX s.V i
  have hi' : i < s.nV * 32 := by unfold lvC lvG at hi; simpa using hi
  exact zlf (fun q hq => e.V _ (by omega)) _ (by omega))
 | 12, _ => exact tr 1 (by omega) (dep 16384) (lT (by unfold lvC lvG; simp; omega) (zb5 16384)) fun i hi => by rw [lv1]
 | 13, _ => exact vec 723 fun i hi => f _ (by omega) (by omega) (by omega) (by omega) (by omega) (by omega) (by omega) (by omega)
 | 14, _ =>
  show E32 (treeN (dep 2) 2 (numX 8 (at_ t.F 979))) (treeN (dep 2) 2 (numX 8 (at_ s.F 979)))
  rw [zkp (n := 8) (f := at_ t.F 979) (g := at_ s.F 979) fun i hi => f _ (by omega) (by omega) (by omega) (by omega) (by omega) (by omega) (by omega) (by omega)]
  exact .of rfl
 | 15, _ => exact tr 2 (by omega) (dep 2048) (lT (by unfold lvC lvG; simp; omega) (zb5 2048)) fun i hi => by rw [lv2]
 | 16, _ => exact tr 3 (by omega) (dep 2048) (lT (by unfold lvC lvG; simp; omega) (zb5 2048)) fun i hi => by rw [lv3]
 | 17, _ =>
  show E32 (bitsN t.F) (bitsN s.F)
  unfold bitsN
  rw [zvd (x := fun i => bln (t.F (989 + i))) (y := fun i => bln (s.F (989 + i))) fun i hi => by rw [f _ (by omega) (by omega) (by omega) (by omega) (by omega) (by omega) (by omega) (by omega)]]
  exact .of rfl
 | 18, _ => exact at_cg 993 33 checkN (fun _ _ => zia) fun i hi => f _ (by omega) (by omega) (by omega) (by omega) (by omega) (by omega) (by omega) (by omega)
 | 19, _ => exact at_cg 1026 33 checkN (fun _ _ => zia) fun i hi => f _ (by omega) (by omega) (by omega) (by omega) (by omega) (by omega) (by omega) (by omega)
 | 20, _ => exact at_cg 1059 33 checkN (fun _ _ => zia) fun i hi => f _ (by omega) (by omega) (by omega) (by omega) (by omega) (by omega) (by omega) (by omega)
 | 21, _ => exact tr 4 (by omega) (dep 16384) (lT (by unfold lvC lvG; simp; omega) (zb5 16384)) fun i hi => by rw [lv4]
 | 22, _ => exact at_cg 1093 432 commN (fun _ _ => zm6) fun i hi => f _ (by omega) (by omega) (by omega) (by omega) (by omega) (by omega) (by omega) (by omega)
 | 23, _ => exact at_cg 1525 432 commN (fun _ _ => zm6) fun i hi => f _ (by omega) (by omega) (by omega) (by omega) (by omega) (by omega) (by omega) (by omega)
 | k + 24, h => exact absurd h (by omega)
end Go.Proofs.YtomilckcgmhfcaaDoor
