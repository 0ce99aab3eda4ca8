/- Lemmas that the proof stands on. -/
import Derived.Test.YtomilckcgmhfcaaDoorGLit24
import Derived.Test.YtomilckcgmhfcaaDoorGLit25
namespace Go.Proofs.YtomilckcgmhfcaaDoor
set_option maxRecDepth 40000
set_option maxHeartbeats 64000000
open Go.RowKit
namespace LiveRoot
theorem shlB (k : Nat) (hk : k < 4) (w : World) : (binOp .shl 5 (.int .u8 1) (.int .i64 (k : Int))).run Tryd.prog w = .ok (.int .u8 ((2 ^ k : Nat) : Int)) w := by
 rcases (show k = 0 ∨ k = 1 ∨ k = 2 ∨ k = 3 by omega) with rfl | rfl | rfl | rfl <;> kernel_rfl
theorem orB (k a : Nat) (hk : k < 4) (ha : a < 2 ^ k) (w : World) : (binOp .or 5 (.int .u8 (a : Int)) (.int .u8 ((2 ^ k : Nat) : Int))).run Tryd.prog w = .ok (.int .u8 ((a + 2 ^ k : Nat) : Int)) w := by
 rcases (show k = 0 ∨ k = 1 ∨ k = 2 ∨ k = 3 by omega) with rfl | rfl | rfl | rfl
 ·rcases (show a = 0 by omega) with rfl; kernel_rfl
 ·rcases (show a = 0 ∨ a = 1 by omega) with rfl | rfl <;> kernel_rfl
 ·rcases (show a = 0 ∨ a = 1 ∨ a = 2 ∨ a = 3 by omega) with rfl | rfl | rfl | rfl <;> kernel_rfl
 ·rcases (show a = 0 ∨ a = 1 ∨ a = 2 ∨ a = 3 ∨ a = 4 ∨ a = 5 ∨ a = 6 ∨ a = 7 by omega) with rfl | rfl | rfl | rfl | rfl | rfl | rfl | rfl <;> kernel_rfl
theorem stB (m : Int) (w : World) (ad : Addr) (u : Value) (h : w.cell? ad = some u) (hf : w.frozen? ad = false) : (Instr.storeAt 5 (.pointer (some ad)) (.int .u8 m)).run Tryd.prog w = .ok () (w.setCell ad (.int .u8 m)) := by
 simp [go_sem, h, hf]
def bitsK (F : Nat → Value) (k : Nat) : Nat → Nat := padN 1 (byteOf (fun i => bln (F (989 + i))) k)
theorem zq9 (F : Nat → Value) (k : Nat) (h : bln (F (989 + k)) = false) : bitsK F (k + 1) = bitsK F k := by
 funext j
 unfold bitsK padN
 rw [ze8 _ _ _ h]
theorem zra (F : Nat → Value) : bitsK F 0 = fun _ => 0 := by
 funext j
 unfold bitsK padN
 rw [ze7]; split <;> rfl
theorem zs1 (F : Nat → Value) (k : Nat) (hk : k < 4) (h : bln (F (989 + k)) = true) : bitsK F k 0 < 2 ^ k ∧ ∀ j, j < 32 → (if j = 0 then Value.int .u8 ((bitsK F k 0 + 2 ^ k : Nat) : Int) else u8v (bitsK F k) j) = u8v (bitsK F (k + 1)) j := by
 have h1 := zeq (fun i => bln (F (989 + i))) k h
 rw [show k / 8 = 0 by omega, show k % 8 = k by omega] at h1
 have e0 : ∀ m, bitsK F m 0 = byteOf (fun i => bln (F (989 + i))) m 0 := fun m => by unfold bitsK padN; rw [if_pos (by omega)]
 refine ⟨by rw [e0]; exact h1.2, fun j _ => ?_⟩
 by_cases e : j = 0
 ·subst e; rw [if_pos rfl, e0]; simp only [u8v]; rw [e0, h1.1]
 ·rw [if_neg e]; simp only [u8v, bitsK, padN]; rw [if_neg (by omega), if_neg (by omega)]
theorem zs2 (V : Nat → Value) (k : Nat) : ∀ i, i < (k + 1) * 32 → catF (k * 32) (u8v (votX V)) (u8v (eth1N fun q => V (k * 65 + q))) i = u8v (votX V) i := fun i hi => by
 unfold catF
 by_cases h : i < k * 32
 ·rw [if_pos h]
 ·rw [if_neg h]
  simp only [u8v]
  unfold votX
  rw [show i / 32 = k by omega, show i % 32 = i - k * 32 by omega]
theorem zh7 (vs : Array Value) (w : World) : (callFunc 27 vs).run Tryd.prog w = .ok (.enter 27 vs) w := by kernel_rfl
theorem zu9 (vs : Array Value) (w : World) : (callFunc 28 vs).run Tryd.prog w = .ok (.enter 28 vs) w := by kernel_rfl
theorem zrb (vs : Array Value) (w : World) : (callFunc 29 vs).run Tryd.prog w = .ok (.enter 29 vs) w := by kernel_rfl
theorem zva (vs : Array Value) (w : World) : (callFunc 26 vs).run Tryd.prog w = .ok (.enter 26 vs) w := by kernel_rfl
theorem zji (vs : Array Value) (w : World) : (callFunc 35 vs).run Tryd.prog w = .ok (.enter 35 vs) w := by kernel_rfl
theorem zoe (vs : Array Value) (w : World) : (callFunc 36 vs).run Tryd.prog w = .ok (.enter 36 vs) w := by kernel_rfl
theorem zh8 (vs : Array Value) (w : World) : (callFunc 30 vs).run Tryd.prog w = .ok (.enter 30 vs) w := by kernel_rfl
theorem zfl (vs : Array Value) (w : World) : (callFunc 31 vs).run Tryd.prog w = .ok (.enter 31 vs) w := by kernel_rfl
theorem zgt (vs : Array Value) (w : World) : (callFunc 32 vs).run Tryd.prog w = .ok (.enter 32 vs) w := by kernel_rfl
theorem zrc (vs : Array Value) (w : World) : (callFunc 33 vs).run Tryd.prog w = .ok (.enter 33 vs) w := by kernel_rfl
theorem zof (vs : Array Value) (w : World) : (callFunc 34 vs).run Tryd.prog w = .ok (.enter 34 vs) w := by kernel_rfl
theorem zm2 (w : World) (b : Nat) : (Instr.indexAt 24 (.pointer (some ⟨b, 0, none⟩)) (.int .i64 0)).run Tryd.prog w = .ok (.pointer (some ⟨b, 0, none⟩)) w := by
 simp [go_sem, Instr.indexAt]
end LiveRoot
open LiveRoot TreeNew in
theorem zdo (base L h : Nat) (s : StV) (T : Nat → Nat) (w : World) (v : Nat → TV) (hL : LV w base L s T v h) (hh : h ≤ 576460752303423488) (hp : ShaPkg w) (hpB : 0 < base ∧ 1 < base) (hpt : TzPkg w) (htB : 2 < base) :
 Calls Tryd.prog 11 #[.pointer (some ⟨L, 0, none⟩)] w fun r w' => ∃ v', r = .returned (rootV (stN s)) ∧ LV w' base L s T v' (h + 400000) ∧ LStep w w' L s T v s T v' := by
 obtain ⟨n, hn⟩ : ∃ n, n = s.nV := ⟨_, rfl⟩
 have HNV := Hd hn.symm
 have HL := Hd hL
 have HRt := Hd hL.right
 have HP := Hd hp
 have HPB := Hd hpB
 have HPt := Hd hpt
 have HtB := Hd htB
 have HF11 := Hd (show s.F 721 = .slice s.aV n s.cV by rw [hL.lm.ok.f11, hn])
 have HS0 := Hd (HS.nil w)
 have HRH := Hd (show Rd w w.heap.size s.aH (s.nH * 32) (u8v (b8 s.His)) from hL.lm.ok.rH.congr (fun i hi => zob hL.lm.ok.scH hi))
 obtain ⟨XH, hXH⟩ : ∃ XH, XH = treeN (dep 1024) s.nH (b8 s.His) := ⟨_, rfl⟩
 have HXH := Hd hXH
 obtain ⟨XE, hXE⟩ : ∃ XE, XE = treeN (dep 8) s.nE (votX s.Vot) := ⟨_, rfl⟩
 have HXE := Hd hXE
 have tk0 := Tok.mk 0
 have tk1 := Tok.mk 1
 clear hL hp hpB hpt htB hn hXH hXE
 go_enter Tryd.func11, Tryd.ntmps11
 go_wp2_with (first
  | ((with_reducible refine at_l ?_); first
   | (refine zac rfl 24 2 rfl rfl HS0.out _ z24 32 (u8v fun _ => 0) n24 f24 ?_; intro b2 w2 hb2 hcb2 hs; have HS2 := Hd hs; clear hs)
   | (refine zab rfl 27 rfl (.slice s.aV n s.cV) ?_ ?_; (· exact zan rfl rfl Ty36 ((HL.out.lm.below (HS2.out.out (by simp; omega))).cell 721 (by omega)) HF11.out))
   | (refine zab rfl 33 rfl (.slice s.aH s.nH s.cH) ?_ ?_; (· exact zan rfl rfl Ty32 ((HL.out.lm.below (HS2.out.out (by simp; omega))).cell 653 (by omega)) HL.out.lm.ok.f7))
   | (refine zac rfl 24 5 rfl rfl HS3.out _ z24 32 (u8v fun _ => 0) n24 f24 ?_; intro b5 w4 hb5 hcb5 hs; have HS4 := Hd hs; clear hs)
   | (refine zaf rfl 24 (.tmp 5) (.tmp 35) rfl HS4.out 0 rfl (u8v XH) rfl rfl (by kernel_rfl) (fun _ _ => rfl) ?_; intro w5 hs; have HS5 := Hd hs; clear hs)
   | (refine zab rfl 40 rfl (.slice s.aE s.nE s.cE) ?_ ?_; (· exact zan rfl rfl Ty35 ((HL.out.lm.below (HS5.out.out (by simp; omega))).cell 719 (by omega)) HL.out.lm.ok.f9)))
  | (go_at_call 25; clear tk0; refine (zd8 s.nH s.cH s.aH (b8 s.His) 1024 _ ((HRH.out.below (HS2.out.out (by simp; omega))).more HS2.out.size) (zcz _) HL.out.lm.ok.lH.1 (by omega) HRt.out.nH (HP.out.below (HS2.out.out (by simp; omega)))).mono ?_; rintro e w3 ⟨rfl, hb⟩; rw [← HXH.out]; have HS3 := Hd (HS2.out.below hb); clear hb))
 have hl5 : b5 < w5.heap.size := HS5.out.lt 0 rfl
 have hl2 : b2 < w5.heap.size := HS5.out.lt 1 rfl
 have hnE := HRt.out.nE
 go_loopw [7, 42] (fun u i wr => ∃ (k : Nat) (A : Option Addr) (c : Nat), u = .slice A k c ∧ i = .int .i64 (k : Int) ∧ k ≤ s.nE ∧ OwnZ wr w5.heap.size 24 32 A k c (u8v (votX s.Vot)) ∧ Below w5.heap.size w5 wr) (fun _ i _ => s.nE - (intOf i).toNat)
 case atStart => exact ⟨0, none, 0, rfl, rfl, Nat.zero_le _, OwnZ.nil _ _ _ _ _, Below.refl _ _⟩
 case round =>
  obtain ⟨k, A, c, rfl, rfl, hk, ho, hb⟩ := hrel
  have HO := Hd ho
  have HB := Hd hb
  have hsz := hb.size
  clear ho hb
  by_cases h1 : k < s.nE
  ·obtain ⟨bE, hAE⟩ := zde HL.out.lm.own.E (by omega)
   have HAE := Hd hAE
   have HCE := Hd (show ∀ q, q < 65 → wr.cell? ⟨bE, k * 65 + q, none⟩ = some (s.Vot (k * 65 + q)) from fun q hq => by
    have h := (HL.out.lm.below (thnB (HS5.out.out (by simp; omega)) HB.out HS5.out.size)).ok.rE.cell_' hAE (k := k * 65 + q) (by omega)
    rw [zai] at h; exact h)
   have HSE := Hd (HL.out.lm.ok.scE k h1)
   have H1E := Hd (show ∀ q, q < 65 → (s.Vot (k * 65 + q)).oneCell' = true from fun q hq => StCopy.zei HL.out.lm.ok.scE (by kernel_rfl) _ (by omega))
   rw [hAE]
   clear hAE
   go_wp2_with (first
    | ((with_reducible refine at_l ?_); first
     | (refine zab rfl 44 rfl (.pointer (some ⟨bE, k * 65, none⟩)) ?_ ?_; (· exact zbb rfl rfl rfl (fun w => (zaw (z := 65) w Ty35 (by kernel_rfl) ⟨bE, 0, none⟩ h1).trans (by rw [zai])) _))
     | (refine zag rfl 34 (.tmp 44) rfl bE (k * 65) 65 (fun q => s.Vot (k * 65 + q)) rfl _ HCE.out Ty34 rfl (by kernel_rfl) _ rfl ?_)
     | (refine zbk rfl rfl 34 34 9 (.tmp 45) rfl rfl rfl 65 (zeroOf Tryd.prog 34) (by kernel_rfl) (by kernel_rfl) (arr 65 fun q => s.Vot (k * 65 + q)) rfl rfl (zam _ _) (by kernel_rfl) (fun q hq => ⟨_, zaq _ _ _ hq, H1E.out q hq⟩) (fun q => s.Vot (k * 65 + q)) (fun q hq => zaq _ _ _ hq) ?_; intro w6 hr6 hb6; have HR6 := Hd hr6; have HB6 := Hd hb6; clear hr6 hb6; simp only [pcX])
     | (refine zae rfl 34 (.tmp 9) rfl 65 _ Ty34 rfl (by kernel_rfl) ⟨wr.heap.size, 0, none⟩ rfl (fun q => s.Vot (k * 65 + q)) (fun q hq => by rw [zai]; exact HR6.out.cell hq) ?_)
     | (refine zbu rfl Ty32 s24 (by omega) (by omega) z24 _ rfl (u8v (eth1N fun q => s.Vot (k * 65 + q))) rfl (HS.nil _) ?_; intro b49 w8 hb49 hc49 hs; have HS8 := Hd hs; have HB8 := Hd (thnB HB7.out (hs.out (by simp; omega)) HB7.out.size); clear hs))
    | (go_at_call 26; refine (zge (fun q => s.Vot (k * 65 + q)) HSE.out _ (HP.out.below (thnB (HS5.out.out (by simp; omega)) (thnB HB.out HB6.out hsz) HS5.out.size))).mono ?_; rintro e w7 ⟨rfl, hb⟩; have HB7 := Hd (thnB HB6.out hb HB6.out.size); clear hb)
    | (at_builtin; refine zba _ (.tmp 46) (.tmp 49) 32 w5.heap.size i24 Ty32 (by rfl) (by omega) rfl rfl (k + 1) (u8v (votX s.Vot)) rfl rfl (HO.out.all HB8.out) (Rd.of_row (n := 1 * 32) (HS8.out.row 0 rfl) lR (HS8.out.lt 0 rfl)) (fun _ _ => rfl) rfl (zs2 s.Vot k) ⟨by omega, by omega⟩ (lT hsz HB8.out.size) ?_; intro A' c' w9 ho9 hg9 ha9; have HO9 := Hd ho9; have HG9 := Hd hg9; clear ho9 hg9 ha9))
   go_roundw
   case rel => exact ⟨k + 1, A', c', rfl, by go_num, by omega, HO9.out, za4 (thnB HB.out HB8.out hsz) HG9.out (lT hsz HB8.out.size) (fun ad e => (HO.out.base_le ad e).1)⟩
   case measure => simp [intOf]; omega
  ·obtain rfl : s.nE = k := by omega
   have HSq := Hd (HS5.out.below HB.out)
   have HVR := Hd HO.out.rd
   have hcap := HO.out.cap
   obtain ⟨w6, hw6⟩ : ∃ w6 : World, w6 = wr := ⟨_, rfl⟩
   subst hw6
   clear HS5 HO HB h1
   go_wp2_with (first
    | (go_at_call 25; clear tk1; refine (zd8 s.nE c A (votX s.Vot) 8 _ HVR.out (zf0 _) hcap (by omega) hnE (HP.out.below (HSq.out.out (by simp; omega)))).mono ?_; rintro e w7 ⟨rfl, hb⟩; rw [← HXE.out]; have HS7 := Hd (HSq.out.below hb); clear hb)
    | ((with_reducible refine at_l ?_); first
     | (refine zac rfl 24 10 rfl rfl HS7.out _ z24 32 (u8v fun _ => 0) n24 f24 ?_; intro b10 w8 hb10 hcb10 hs; have HS8 := Hd hs; clear hs)
     | (refine zaf rfl 24 (.tmp 10) (.tmp 55) rfl HS8.out 0 rfl (u8v XE) rfl rfl (by kernel_rfl) (fun _ _ => rfl) ?_; intro w9 hs; have HS9 := Hd hs; clear hs)
     | (refine zac rfl 24 12 rfl rfl HS9.out _ z24 32 (u8v fun _ => 0) n24 f24 ?_; intro b12 w10 hb12 hcb12 hs; have HS10 := Hd hs; clear hs)
     | (refine zag rfl 40 (.tmp 59) rfl L 989 4 (at_ s.F 989) rfl _ (fun i hi => (HL.out.lm.below (HS10.out.out (by simp; omega))).cell (989 + i) (by omega)) Tryd.underlying40 rfl (by kernel_rfl) _ rfl ?_)))
   have HSb : Hid (HS w w10 [⟨b12, 24, 32, u8v (bitsK s.F 0)⟩, ⟨b10, 24, 32, u8v XE⟩, ⟨b5, 24, 32, u8v XH⟩, ⟨b2, 24, 32, u8v fun _ => 0⟩]) := Hd (by rw [zra]; exact HS10.out)
   clear HS7 HS8 HS9 HS10 HSq HVR
   go_loopw [61] (fun i wr => ∃ k : Nat, i = .int .i64 (k : Int) ∧ k ≤ 4 ∧ HS w wr [⟨b12, 24, 32, u8v (bitsK s.F k)⟩, ⟨b10, 24, 32, u8v XE⟩, ⟨b5, 24, 32, u8v XH⟩, ⟨b2, 24, 32, u8v fun _ => 0⟩]) (fun i _ => 4 - (intOf i).toNat)
   case atStart => exact ⟨0, rfl, by omega, HSb.out⟩
   case round =>
    clear HSb
    obtain ⟨k, rfl, hk4, hs⟩ := hrel
    have HSk := Hd hs
    clear hs
    by_cases hk : k < 4
    ·have HIx := Hd (fun w => zj3 (P := Tryd.prog) (n := 4) w Tryd.underlying40 (by kernel_rfl) Ty4 rfl (at_ s.F 989) k hk)
     have hbk : at_ s.F 989 k = .bool (bln (s.F (989 + k))) := by
      show s.F (989 + k) = _
      rcases (show k = 0 ∨ k = 1 ∨ k = 2 ∨ k = 3 by omega) with rfl | rfl | rfl | rfl <;> exact HL.out.lm.ok.sc.bool _ (by kernel_rfl)
     rw [hbk] at HIx
     obtain ⟨xb, hxb⟩ : ∃ xb, bln (s.F (989 + k)) = xb := ⟨_, rfl⟩
     rw [hxb] at HIx
     clear hbk
     cases xb with
     | false =>
      have HB0 := Hd (zq9 s.F k hxb)
      clear hxb
      go_wp2_with ((with_reducible refine at_l ?_); refine zab rfl 64 rfl (.bool false) ?_ ?_; (· exact zdb rfl rfl rfl HIx.out _))
      go_roundw
      case rel => exact ⟨k + 1, by go_num, by omega, by rw [HB0.out]; exact HSk.out⟩
      case measure => simp [intOf]; omega
     | true =>
      have hbh := zs1 s.F k hk hxb
      have HBH := Hd hbh.2
      have HBl := Hd hbh.1
      obtain ⟨y, hy⟩ : ∃ y, bitsK s.F k 0 = y := ⟨_, rfl⟩
      rw [hy] at HBH HBl
      have HY := Hd hy
      clear hxb hbh hy
      go_upto_region 18 with ((with_reducible refine at_l ?_); refine zab rfl 64 rfl (.bool true) ?_ ?_; (· exact zdb rfl rfl rfl HIx.out _))
      refine zao (l := [_, _, _, _, _, _]) (tl := []) (B := wr.heap.size) (w0 := wr) [sI (.pointer (some ⟨b12, 0, none⟩)), sI (.int .u8 ((y : Nat) : Int)), sI (.int .i64 ((k : Nat) : Int)), sI (.int .u8 ((2 ^ k : Nat) : Int)), sI (.int .u8 ((y + 2 ^ k : Nat) : Int)), sI (.pointer (some ⟨b12, 0, none⟩))] (by kernel_rfl) (by kernel_rfl) rfl lR (Below.refl _ _) ⟨?_, ?_, ?_, ?_, ?_, ?_, trivial⟩ ?_
      ·exact zak rfl rfl (oT rfl) OpK.const (fun w => (zm2 w b12))
      ·exact zad rfl rfl (oT rfl) (fun w' hb => zcf w' _ _ .u8 _ ((((HSk.out.below hb).cell 0 0 rfl (show 0 < 32 by omega))).trans (by simp only [u8v]; rw [HY.out])) Ty5)
      ·exact (zaa _ rfl (.inl rfl) rfl)
      ·exact za0 rfl rfl rfl OpK.const (oT rfl) (fun w => shlB k hk w)
      ·exact za0 rfl rfl rfl (oT rfl) (oT rfl) (fun w => orB k y hk HBl.out w)
      ·exact zak rfl rfl (oT rfl) OpK.const (fun w => (zm2 w b12))
      ·intro w' hb
       simp only [fin, sI, forall_eq]
       simp only [pcX]
       have hs := HSk.out.below hb
       refine zkk 5 (.tmp 71) (.tmp 70) rfl hs 0 rfl 0 (.int .u8 ((y + 2 ^ k : Nat) : Int)) (stB _) rfl rfl (show 0 < 32 by omega) (u8v (bitsK s.F (k + 1))) HBH.out ?_
       clear hs hb
       intro wy hs _
       have HSy := Hd hs
       clear hs
       simp only [seqWp, Act.put]
       go_wp2_with fail
       go_roundw
       case rel => exact ⟨k + 1, by go_num, by omega, HSy.out⟩
       case measure => simp [intOf]; omega
    ·obtain rfl : k = 4 := by omega
     have HM0 := Hd (HL.out.lm.below (HSk.out.out (by simp; omega)))
     have HP0 := Hd (HP.out.below (HSk.out.out (by simp; omega)))
     have HPt0 := Hd (HPt.out.below (HSk.out.out (by simp; omega)) HPt.out.lt)
     have HNb2 : Hid (¬ LOwn L s T v b2) := Hd fun hb => by have := HL.out.lm.lt hb; omega
     have HNb5 : Hid (¬ LOwn L s T v b5) := Hd fun hb => by have := HL.out.lm.lt hb; omega
     have HNb10 : Hid (¬ LOwn L s T v b10) := Hd fun hb => by have := HL.out.lm.lt hb; omega
     have HNb12 : Hid (¬ LOwn L s T v b12) := Hd fun hb => by have := HL.out.lm.lt hb; omega
     have HH := Hd hh
     have HXHl : Hid (∀ i, XH i < 256) := Hd (by rw [HXH.out]; exact za9 (zcz _) _ _)
     have HXEl : Hid (∀ i, XE i < 256) := Hd (by rw [HXE.out]; exact za9 (zf0 _) _ _)
     have hnH : s.nH ≤ 1024 := HRt.out.nH
     have HW979 := Hd (zmv HL.out.lm.ok.sc 979 8 (by kernel_rfl))
     have HU0 := Hd (HL.out.lm.ok.sc.u64 0 (by kernel_rfl)).1
     have HU33 := Hd (HL.out.lm.ok.sc.u64 33 (by kernel_rfl)).1
     have HU720 := Hd (HL.out.lm.ok.sc.u64 720 (by kernel_rfl)).1
     have HB1 := Hd (zd7 HL.out.lm.ok.sc 1 32 (by kernel_rfl))
     have HB141 := Hd (zd7 HL.out.lm.ok.sc 141 (8 * 32) (by kernel_rfl))
     have HB397 := Hd (zd7 HL.out.lm.ok.sc 397 (8 * 32) (by kernel_rfl))
     have HB723 := Hd (zd7 HL.out.lm.ok.sc 723 (8 * 32) (by kernel_rfl))
     have HC34 := Hd (HL.out.lm.ok.sc.at_ 34 9 28 (by kernel_rfl) (zbl (n := 9) Ty28 (by kernel_rfl)))
     have HC43 := Hd (HL.out.lm.ok.sc.at_ 43 98 30 (by kernel_rfl) (zbl (n := 98) Ty30 (by kernel_rfl)))
     have HC654 := Hd (HL.out.lm.ok.sc.at_ 654 65 34 (by kernel_rfl) (zbl (n := 65) Ty34 (by kernel_rfl)))
     have HC993 := Hd (HL.out.lm.ok.sc.at_ 993 33 42 (by kernel_rfl) (zbl (n := 33) Ty42 (by kernel_rfl)))
     have HC1026 := Hd (HL.out.lm.ok.sc.at_ 1026 33 42 (by kernel_rfl) (zbl (n := 33) Ty42 (by kernel_rfl)))
     have HC1059 := Hd (HL.out.lm.ok.sc.at_ 1059 33 42 (by kernel_rfl) (zbl (n := 33) Ty42 (by kernel_rfl)))
     have HC1093 := Hd (HL.out.lm.ok.sc.at_ 1093 432 47 (by kernel_rfl) (zbl (n := 432) Ty47 (by kernel_rfl)))
     have HC1525 := Hd (HL.out.lm.ok.sc.at_ 1525 432 47 (by kernel_rfl) (zbl (n := 432) Ty47 (by kernel_rfl)))
     obtain rfl := HNV.out
     go_upto_region 20 with fail
     have kI : ∀ e : Value, ∀ v w w', (sI e).F v w → RKeep w w' → (sI e).F v w' := fun e v w w' h _ => h
     have kN : ∀ v w w', (SF.new wr.heap.size 88 1024 (u8v fun _ => 0)).F v w → RKeep w w' → (SF.new wr.heap.size 88 1024 (u8v fun _ => 0)).F v w' := fun v w w' ⟨b, e, h1, h2⟩ hk => ⟨b, e, h1, hk _ _ _ h2⟩
     refine zjh (N := 5) (l := [_, _, _, _, _, _, _, _, _, _, _, _, _, _, _, _, _, _, _, _, _, _, _, _, _, _, _, _, _, _, _, _, _, _, _, _, _, _, _, _, _, _, _, _, _, _, _, _, _, _, _, _, _, _, _, _, _, _, _, _, _, _, _, _, _, _, _, _, _, _, _, _, _, _, _, _, _, _, _, _, _, _, _, _, _, _, _, _, _, _, _, _, _, _, _, _, _, _, _, _, _, _, _, _, _, _, _, _, _, _, _, _, _, _, _, _, _, _, _, _, _, _, _, _, _, _, _, _, _, _, _, _, _, _]) (ol := _) (RJ base L h s T v wr) RKeep [sI (.pointer (some ⟨L, 0, none⟩)), sI (.pointer (some ⟨L, 0, none⟩)), sI (.pointer (some ⟨L, 0, none⟩)), sI (.int .u64 ((nat (s.F 0) : Nat) : Int)), sI (rootV (numN s.F 0)), sI (.pointer (some ⟨L, 0, none⟩)), sI (.pointer (some ⟨L, 0, none⟩)), sI (.pointer (some ⟨L, 1, none⟩)), sI (rootV (byF s.F 1)), sI (.pointer (some ⟨L, 0, none⟩)), sI (.pointer (some ⟨L, 0, none⟩)), sI (.pointer (some ⟨L, 33, none⟩)), sI (.int .u64 ((nat (s.F 33) : Nat) : Int)), sI (rootV (numN s.F 33)), sI (.pointer (some ⟨L, 0, none⟩)), sI (.pointer (some ⟨L, 0, none⟩)), sI (.pointer (some ⟨L, 34, none⟩)), sI (.agg (arr 9 (at_ s.F 34))), sI (rootV (forkN (at_ s.F 34))), sI (.pointer (some ⟨L, 0, none⟩)), sI (.pointer (some ⟨L, 0, none⟩)), sI (.pointer (some ⟨L, 43, none⟩)), sI (.agg (arr 98 (at_ s.F 43))), sI (rootV (headerN (at_ s.F 43))), sI (.pointer (some ⟨L, 0, none⟩)), sI (.pointer (some ⟨L, 0, none⟩)), sI (.pointer (some ⟨L, 141, none⟩)), sI (.slice (some ⟨L, 141, none⟩) (8) (8)), sI (rootV (treeN (dep 8) 8 (byF s.F 141))), sI (.pointer (some ⟨L, 0, none⟩)), sI (.pointer (some ⟨L, 0, none⟩)), sI (.pointer (some ⟨L, 397, none⟩)), sI (.slice (some ⟨L, 397, none⟩) (8) (8)), sI (rootV (treeN (dep 8) 8 (byF s.F 397))), sI (rootV XH), sI (.pointer (some ⟨L, 0, none⟩)), sI (.pointer (some ⟨L, 0, none⟩)), sI (.pointer (some ⟨L, 653, none⟩)), sI (.slice (s.aH) (s.nH) (s.cH)), sI (.int .i64 ((s.nH : Nat) : Int)), sI (.int .u64 ((s.nH : Nat) : Int)), sI (rootV (lmixN XH s.nH)), sI (.pointer (some ⟨L, 0, none⟩)), sI (.pointer (some ⟨L, 0, none⟩)), sI (.pointer (some ⟨L, 654, none⟩)), sI (.agg (arr 65 (at_ s.F 654))), sI (rootV (eth1N (at_ s.F 654))), sI (rootV XE), sI (.pointer (some ⟨L, 0, none⟩)), sI (.pointer (some ⟨L, 0, none⟩)), sI (.pointer (some ⟨L, 719, none⟩)), sI (.slice (s.aE) (s.nE) (s.cE)), sI (.int .i64 ((s.nE : Nat) : Int)), sI (.int .u64 ((s.nE : Nat) : Int)), sI (rootV (lmixN XE s.nE)), sI (.pointer (some ⟨L, 0, none⟩)), sI (.pointer (some ⟨L, 0, none⟩)), sI (.pointer (some ⟨L, 720, none⟩)), sI (.int .u64 ((nat (s.F 720) : Nat) : Int)), sI (rootV (numN s.F 720)), sI (.pointer (some ⟨L, 0, none⟩)), sI (.pointer (some ⟨L, 0, none⟩)), sI (.pointer (some ⟨L, 1957, none⟩)), sI (tpV (T 0)), sI (.int .i64 ((s.nV : Nat) : Int)), sI (rootV (lmixN (treeN (dep (lvL 0)) (lvC 0 s.nV) (lvX s 0)) s.nV)), sI (.pointer (some ⟨L, 0, none⟩)), sI (.pointer (some ⟨L, 0, none⟩)), sI (.pointer (some ⟨L, 1958, none⟩)), sI (tpV (T 1)), sI (.int .i64 ((s.nV : Nat) : Int)), sI (rootV (lmixN (treeN (dep (lvL 1)) (lvC 1 s.nV) (lvX s 1)) s.nV)), sI (.pointer (some ⟨L, 0, none⟩)), sI (.pointer (some ⟨L, 0, none⟩)), sI (.pointer (some ⟨L, 723, none⟩)), sI (.slice (some ⟨L, 723, none⟩) (8) (8)), sI (rootV (treeN (dep 8) 8 (byF s.F 723))), sI (.pointer (some ⟨L, 0, none⟩)), sI (.pointer (some ⟨L, 0, none⟩)), sI (.pointer (some ⟨L, 979, none⟩)), sI (.slice (some ⟨L, 979, none⟩) (8) (8)), sI (rootV (fun q => numX 8 (at_ s.F 979) (0 * 32 + q))), sI (.pointer (some ⟨L, 0, none⟩)), sI (.pointer (some ⟨L, 0, none⟩)), sI (.pointer (some ⟨L, 979, none⟩)), sI (.slice (some ⟨L, 979, none⟩) (8) (8)), sI (rootV (fun q => numX 8 (at_ s.F 979) (1 * 32 + q))), sI (rootV (shaB (catN 32 (fun q => numX 8 (at_ s.F 979) (0 * 32 + q)) (fun q => numX 8 (at_ s.F 979) (1 * 32 + q))) 64)), sI (.pointer (some ⟨L, 0, none⟩)), sI (.pointer (some ⟨L, 0, none⟩)), sI (.pointer (some ⟨L, 1959, none⟩)), sI (tpV (T 2)), sI (.int .i64 ((s.nV : Nat) : Int)), sI (rootV (lmixN (treeN (dep (lvL 2)) (lvC 2 s.nV) (lvX s 2)) s.nV)), sI (.pointer (some ⟨L, 0, none⟩)), sI (.pointer (some ⟨L, 0, none⟩)), sI (.pointer (some ⟨L, 1960, none⟩)), sI (tpV (T 3)), sI (.int .i64 ((s.nV : Nat) : Int)), sI (rootV (lmixN (treeN (dep (lvL 3)) (lvC 3 s.nV) (lvX s 3)) s.nV)), sI (rootV (bitsK s.F 4)), sI (.pointer (some ⟨L, 0, none⟩)), sI (.pointer (some ⟨L, 0, none⟩)), sI (.pointer (some ⟨L, 993, none⟩)), sI (.agg (arr 33 (at_ s.F 993))), sI (rootV (checkN (at_ s.F 993))), sI (.pointer (some ⟨L, 0, none⟩)), sI (.pointer (some ⟨L, 0, none⟩)), sI (.pointer (some ⟨L, 1026, none⟩)), sI (.agg (arr 33 (at_ s.F 1026))), sI (rootV (checkN (at_ s.F 1026))), sI (.pointer (some ⟨L, 0, none⟩)), sI (.pointer (some ⟨L, 0, none⟩)), sI (.pointer (some ⟨L, 1059, none⟩)), sI (.agg (arr 33 (at_ s.F 1059))), sI (rootV (checkN (at_ s.F 1059))), sI (.pointer (some ⟨L, 0, none⟩)), sI (.pointer (some ⟨L, 0, none⟩)), sI (.pointer (some ⟨L, 1961, none⟩)), sI (tpV (T 4)), sI (.int .i64 ((s.nV : Nat) : Int)), sI (rootV (lmixN (treeN (dep (lvL 4)) (lvC 4 s.nV) (lvX s 4)) s.nV)), sI (.pointer (some ⟨L, 0, none⟩)), sI (.pointer (some ⟨L, 0, none⟩)), sI (.pointer (some ⟨L, 1093, none⟩)), sI (.agg (arr 432 (at_ s.F 1093))), sI (rootV (commN (at_ s.F 1093))), sI (.pointer (some ⟨L, 0, none⟩)), sI (.pointer (some ⟨L, 0, none⟩)), sI (.pointer (some ⟨L, 1525, none⟩)), sI (.agg (arr 432 (at_ s.F 1525))), sI (rootV (commN (at_ s.F 1525))), sI (.agg (arr 1024 (u8v (stX s)))), SF.new wr.heap.size 88 1024 (u8v fun _ => 0)] [none, none, none, none, none, none, none, none, none, none, none, none, none, none, none, none, none, none, none, none, none, none, none, none, none, none, none, none, none, none, none, none, none, none, none, none, none, none, none, none, none, none, none, none, none, none, none, none, none, none, none, none, none, none, none, none, none, none, none, none, none, none, none, none, none, some 0, none, none, none, none, none, some 1, none, none, none, none, none, none, none, none, none, none, none, none, none, none, none, none, none, none, none, none, none, some 2, none, none, none, none, none, some 3, none, none, none, none, none, none, none, none, none, none, none, none, none, none, none, none, none, none, none, none, none, some 4, none, none, none, none, none, none, none, none, none, none, none, none] rfl (by kernel_rfl) (by kernel_rfl) rfl rfl (fun k w1 w2 hj hb => hj.below hb) (qM ⟨kI _, qM ⟨kI _, qM ⟨kI _, qM ⟨kI _, qM ⟨kI _, qM ⟨kI _, qM ⟨kI _, qM ⟨kI _, qM ⟨kI _, qM ⟨kI _, qM ⟨kI _, qM ⟨kI _, qM ⟨kI _, qM ⟨kI _, qM ⟨kI _, qM ⟨kI _, qM ⟨kI _, qM ⟨kI _, qM ⟨kI _, qM ⟨kI _, qM ⟨kI _, qM ⟨kI _, qM ⟨kI _, qM ⟨kI _, qM ⟨kI _, qM ⟨kI _, qM ⟨kI _, qM ⟨kI _, qM ⟨kI _, qM ⟨kI _, qM ⟨kI _, qM ⟨kI _, qM ⟨kI _, qM ⟨kI _, qM ⟨kI _, qM ⟨kI _, qM ⟨kI _, qM ⟨kI _, qM ⟨kI _, qM ⟨kI _, qM ⟨kI _, qM ⟨kI _, qM ⟨kI _, qM ⟨kI _, qM ⟨kI _, qM ⟨kI _, qM ⟨kI _, qM ⟨kI _, qM ⟨kI _, qM ⟨kI _, qM ⟨kI _, qM ⟨kI _, qM ⟨kI _, qM ⟨kI _, qM ⟨kI _, qM ⟨kI _, qM ⟨kI _, qM ⟨kI _, qM ⟨kI _, qM ⟨kI _, qM ⟨kI _, qM ⟨kI _, qM ⟨kI _, qM ⟨kI _, qM ⟨kI _, qM ⟨kI _, qM ⟨kI _, qM ⟨kI _, qM ⟨kI _, qM ⟨kI _, qM ⟨kI _, qM ⟨kI _, qM ⟨kI _, qM ⟨kI _, qM ⟨kI _, qM ⟨kI _, qM ⟨kI _, qM ⟨kI _, qM ⟨kI _, qM ⟨kI _, qM ⟨kI _, qM ⟨kI _, qM ⟨kI _, qM ⟨kI _, qM ⟨kI _, qM ⟨kI _, qM ⟨kI _, qM ⟨kI _, qM ⟨kI _, qM ⟨kI _, qM ⟨kI _, qM ⟨kI _, qM ⟨kI _, qM ⟨kI _, qM ⟨kI _, qM ⟨kI _, qM ⟨kI _, qM ⟨kI _, qM ⟨kI _, qM ⟨kI _, qM ⟨kI _, qM ⟨kI _, qM ⟨kI _, qM ⟨kI _, qM ⟨kI _, qM ⟨kI _, qM ⟨kI _, qM ⟨kI _, qM ⟨kI _, qM ⟨kI _, qM ⟨kI _, qM ⟨kI _, qM ⟨kI _, qM ⟨kI _, qM ⟨kI _, qM ⟨kI _, qM ⟨kI _, qM ⟨kI _, qM ⟨kI _, qM ⟨kI _, qM ⟨kI _, qM ⟨kI _, qM ⟨kI _, qM ⟨kI _, qM ⟨kI _, qM ⟨kI _, qM ⟨kI _, qM ⟨kI _, qM ⟨kI _, qM ⟨kI _, qM ⟨kI _, qM ⟨kI _, qM ⟨kI _, qM ⟨kN, List.forall_mem_nil _⟩⟩⟩⟩⟩⟩⟩⟩⟩⟩⟩⟩⟩⟩⟩⟩⟩⟩⟩⟩⟩⟩⟩⟩⟩⟩⟩⟩⟩⟩⟩⟩⟩⟩⟩⟩⟩⟩⟩⟩⟩⟩⟩⟩⟩⟩⟩⟩⟩⟩⟩⟩⟩⟩⟩⟩⟩⟩⟩⟩⟩⟩⟩⟩⟩⟩⟩⟩⟩⟩⟩⟩⟩⟩⟩⟩⟩⟩⟩⟩⟩⟩⟩⟩⟩⟩⟩⟩⟩⟩⟩⟩⟩⟩⟩⟩⟩⟩⟩⟩⟩⟩⟩⟩⟩⟩⟩⟩⟩⟩⟩⟩⟩⟩⟩⟩⟩⟩⟩⟩⟩⟩⟩⟩⟩⟩⟩⟩⟩⟩⟩⟩⟩⟩) ⟨v, ⟨HM0.out, HL.out.st, HL.out.lim, HL.out.D, fun j hj => by have := HL.out.H j hj; omega, HL.out.right⟩, LStep.refl (Below.refl _ _), fun _ _ => rfl⟩ ⟨?_, ?_, ?_, ?_, ?_, ?_, ?_, ?_, ?_, ?_, ?_, ?_, ?_, ?_, ?_, ?_, ?_, ?_, ?_, ?_, ?_, ?_, ?_, ?_, ?_, ?_, ?_, ?_, ?_, ?_, ?_, ?_, ?_, ?_, ?_, ?_, ?_, ?_, ?_, ?_, ?_, ?_, ?_, ?_, ?_, ?_, ?_, ?_, ?_, ?_, ?_, ?_, ?_, ?_, ?_, ?_, ?_, ?_, ?_, ?_, ?_, ?_, ?_, ?_, ?_, ?_, ?_, ?_, ?_, ?_, ?_, ?_, ?_, ?_, ?_, ?_, ?_, ?_, ?_, ?_, ?_, ?_, ?_, ?_, ?_, ?_, ?_, ?_, ?_, ?_, ?_, ?_, ?_, ?_, ?_, ?_, ?_, ?_, ?_, ?_, ?_, ?_, ?_, ?_, ?_, ?_, ?_, ?_, ?_, ?_, ?_, ?_, ?_, ?_, ?_, ?_, ?_, ?_, ?_, ?_, ?_, ?_, ?_, ?_, ?_, ?_, ?_, ?_, ?_, ?_, ?_, ?_, ?_, ?_, trivial⟩ ?_
     ·exact fun k wj hj => (zaa _ rfl (.inl rfl) rfl)
     ·exact fun k wj hj => zar _ rfl rfl (oT rfl)
     ·exact fun k wj hj => zal rfl rfl (oT rfl) (fun w => by simp [go_sem])
     ·exact fun k wj hj => zad rfl rfl (oT rfl) (fun w' hb => zcf w' _ _ .u64 _ ((hj.cell hb 0 (by omega)).trans (congrArg some HU0.out)) Ty22)
     ·exact fun k wj hj => zby zh7 rfl rfl (oT rfl) (fun w' hb => (zgk (nat (s.F 0)) w').mono fun e w2 ⟨he, hb2⟩ => ⟨_, he, rfl, hb2⟩)
     ·exact fun k wj hj => (zaa _ rfl (.inl rfl) rfl)
     ·exact fun k wj hj => zar _ rfl rfl (oT rfl)
     ·exact fun k wj hj => zal rfl rfl (oT rfl) (fun w => by simp [go_sem])
     ·exact fun k wj hj => zad rfl rfl (oT rfl) (fun w' hb => zax w' L 1 32 24 _ (u8v (byF s.F 1)) (fun i hi => (hj.cell hb (1 + i) (by omega)).trans (congrArg some (HB1.out i hi))) Ty24 rfl s24)
     ·exact fun k wj hj => (zaa _ rfl (.inl rfl) rfl)
     ·exact fun k wj hj => zar _ rfl rfl (oT rfl)
     ·exact fun k wj hj => zal rfl rfl (oT rfl) (fun w => by simp [go_sem])
     ·exact fun k wj hj => zad rfl rfl (oT rfl) (fun w' hb => zcf w' _ _ .u64 _ ((hj.cell hb 33 (by omega)).trans (congrArg some HU33.out)) Ty22)
     ·exact fun k wj hj => zby zh7 rfl rfl (oT rfl) (fun w' hb => (zgk (nat (s.F 33)) w').mono fun e w2 ⟨he, hb2⟩ => ⟨_, he, rfl, hb2⟩)
     ·exact fun k wj hj => (zaa _ rfl (.inl rfl) rfl)
     ·exact fun k wj hj => zar _ rfl rfl (oT rfl)
     ·exact fun k wj hj => zal rfl rfl (oT rfl) (fun w => by simp [go_sem])
     ·exact fun k wj hj => zad rfl rfl (oT rfl) (fun w' hb => zax w' L 34 9 28 _ (at_ s.F 34) (fun i hi => hj.cell hb (34 + i) (by omega)) Ty28 rfl (by kernel_rfl))
     ·exact fun k wj hj => zby zu9 rfl rfl (oT rfl) (fun w' hb => (zk8 (at_ s.F 34) HC34.out w' (HP0.out.base HPB.out (hj.low HM0.out hb))).mono fun e w2 ⟨he, hb2⟩ => ⟨_, he, rfl, hb2⟩)
     ·exact fun k wj hj => (zaa _ rfl (.inl rfl) rfl)
     ·exact fun k wj hj => zar _ rfl rfl (oT rfl)
     ·exact fun k wj hj => zal rfl rfl (oT rfl) (fun w => by simp [go_sem])
     ·exact fun k wj hj => zad rfl rfl (oT rfl) (fun w' hb => zax w' L 43 98 30 _ (at_ s.F 43) (fun i hi => hj.cell hb (43 + i) (by omega)) Ty30 rfl (by kernel_rfl))
     ·exact fun k wj hj => zby zrb rfl rfl (oT rfl) (fun w' hb => (ziu (at_ s.F 43) HC43.out w' (HP0.out.base HPB.out (hj.low HM0.out hb))).mono fun e w2 ⟨he, hb2⟩ => ⟨_, he, rfl, hb2⟩)
     ·exact fun k wj hj => (zaa _ rfl (.inl rfl) rfl)
     ·exact fun k wj hj => zar _ rfl rfl (oT rfl)
     ·exact fun k wj hj => zal rfl rfl (oT rfl) (fun w => by simp [go_sem])
     ·exact fun k wj hj => zbe rfl rfl (oT rfl) (OpKo.no) (OpKo.no) (fun w => zbp Ty31 32 (by kernel_rfl) none none (0) (8) (.inl ⟨rfl, rfl⟩) (.inl ⟨rfl, rfl⟩) (by omega) (by omega) (by omega) (by omega) (by omega) (by omega))
     ·exact fun k wj hj => zby zh8 rfl rfl (oT rfl) (fun w' hb => (zgl 8 8 (some ⟨L, 141, none⟩) (byF s.F 141) w' (hj.rd hb 141 (8 * 32) (u8v (byF s.F 141)) (by omega) HB141.out) (zbm _ _) (by omega) (by omega) (HP0.out.base HPB.out (hj.low HM0.out hb))).mono fun e w2 ⟨he, hb2⟩ => ⟨_, he, rfl, hb2⟩)
     ·exact fun k wj hj => (zaa _ rfl (.inl rfl) rfl)
     ·exact fun k wj hj => zar _ rfl rfl (oT rfl)
     ·exact fun k wj hj => zal rfl rfl (oT rfl) (fun w => by simp [go_sem])
     ·exact fun k wj hj => zbe rfl rfl (oT rfl) (OpKo.no) (OpKo.no) (fun w => zbp Ty31 32 (by kernel_rfl) none none (0) (8) (.inl ⟨rfl, rfl⟩) (.inl ⟨rfl, rfl⟩) (by omega) (by omega) (by omega) (by omega) (by omega) (by omega))
     ·exact fun k wj hj => zby zh8 rfl rfl (oT rfl) (fun w' hb => (zgl 8 8 (some ⟨L, 397, none⟩) (byF s.F 397) w' (hj.rd hb 397 (8 * 32) (u8v (byF s.F 397)) (by omega) HB397.out) (zbm _ _) (by omega) (by omega) (HP0.out.base HPB.out (hj.low HM0.out hb))).mono fun e w2 ⟨he, hb2⟩ => ⟨_, he, rfl, hb2⟩)
     ·exact fun k wj hj => zad rfl rfl (oT rfl) (fun w' hb => zax w' b5 0 32 24 _ (u8v XH) (fun i hi => by rw [Nat.zero_add]; exact (hj.row hb (HSk.out.row 2 rfl) HNb5.out).cell hi) Ty24 rfl s24)
     ·exact fun k wj hj => (zaa _ rfl (.inl rfl) rfl)
     ·exact fun k wj hj => zar _ rfl rfl (oT rfl)
     ·exact fun k wj hj => zal rfl rfl (oT rfl) (fun w => by simp [go_sem])
     ·exact fun k wj hj => zad rfl rfl (oT rfl) (fun w' hb => PickDraw.za3 w' _ _ _ _ ((hj.cell hb 653 (by omega)).trans (congrArg some HL.out.lm.ok.f7)) Ty32)
     ·exact fun k wj hj => zcw Ty32 rfl rfl (oT rfl)
     ·exact fun k wj hj => ze0 rfl rfl (oT rfl) (fun w => by simp [go_sem, IntKind.wrap, IntKind.bits, IntKind.signed]; omega)
     ·exact fun k wj hj => zbi zfl rfl rfl (oT rfl) (oT rfl) (fun w' hb => (zdk XH HXHl.out s.nH w' (HP0.out.base HPB.out (hj.low HM0.out hb))).mono fun e w2 ⟨he, hb2⟩ => ⟨_, he, rfl, hb2⟩)
     ·exact fun k wj hj => (zaa _ rfl (.inl rfl) rfl)
     ·exact fun k wj hj => zar _ rfl rfl (oT rfl)
     ·exact fun k wj hj => zal rfl rfl (oT rfl) (fun w => by simp [go_sem])
     ·exact fun k wj hj => zad rfl rfl (oT rfl) (fun w' hb => zax w' L 654 65 34 _ (at_ s.F 654) (fun i hi => hj.cell hb (654 + i) (by omega)) Ty34 rfl (by kernel_rfl))
     ·exact fun k wj hj => zby zva rfl rfl (oT rfl) (fun w' hb => (zge (at_ s.F 654) HC654.out w' (HP0.out.base HPB.out (hj.low HM0.out hb))).mono fun e w2 ⟨he, hb2⟩ => ⟨_, he, rfl, hb2⟩)
     ·exact fun k wj hj => zad rfl rfl (oT rfl) (fun w' hb => zax w' b10 0 32 24 _ (u8v XE) (fun i hi => by rw [Nat.zero_add]; exact (hj.row hb (HSk.out.row 1 rfl) HNb10.out).cell hi) Ty24 rfl s24)
     ·exact fun k wj hj => (zaa _ rfl (.inl rfl) rfl)
     ·exact fun k wj hj => zar _ rfl rfl (oT rfl)
     ·exact fun k wj hj => zal rfl rfl (oT rfl) (fun w => by simp [go_sem])
     ·exact fun k wj hj => zad rfl rfl (oT rfl) (fun w' hb => PickDraw.za3 w' _ _ _ _ ((hj.cell hb 719 (by omega)).trans (congrArg some HL.out.lm.ok.f9)) Ty35)
     ·exact fun k wj hj => zcw Ty35 rfl rfl (oT rfl)
     ·exact fun k wj hj => ze0 rfl rfl (oT rfl) (fun w => by simp [go_sem, IntKind.wrap, IntKind.bits, IntKind.signed]; omega)
     ·exact fun k wj hj => zbi zfl rfl rfl (oT rfl) (oT rfl) (fun w' hb => (zdk XE HXEl.out s.nE w' (HP0.out.base HPB.out (hj.low HM0.out hb))).mono fun e w2 ⟨he, hb2⟩ => ⟨_, he, rfl, hb2⟩)
     ·exact fun k wj hj => (zaa _ rfl (.inl rfl) rfl)
     ·exact fun k wj hj => zar _ rfl rfl (oT rfl)
     ·exact fun k wj hj => zal rfl rfl (oT rfl) (fun w => by simp [go_sem])
     ·exact fun k wj hj => zad rfl rfl (oT rfl) (fun w' hb => zcf w' _ _ .u64 _ ((hj.cell hb 720 (by omega)).trans (congrArg some HU720.out)) Ty22)
     ·exact fun k wj hj => zby zh7 rfl rfl (oT rfl) (fun w' hb => (zgk (nat (s.F 720)) w').mono fun e w2 ⟨he, hb2⟩ => ⟨_, he, rfl, hb2⟩)
     ·exact fun k wj hj => (zaa _ rfl (.inl rfl) rfl)
     ·exact fun k wj hj => zar _ rfl rfl (oT rfl)
     ·exact fun k wj hj => zal rfl rfl (oT rfl) (fun w => by simp [go_sem])
     ·exact fun k wj hj => zad rfl rfl (oT rfl) (fun w' hb => zch w' _ _ _ _ (hj.ptr hb 0 (by omega)) Ty68)
     ·exact fun k wj hj => (zaa _ rfl (.inl rfl) rfl)
     ·exact zf5 zgt rfl rfl (oT rfl) (oT rfl) (fun wj hj => hj.list HM0.out 0 (by omega) (by omega) HH.out HP0.out HPB.out HPt0.out HtB.out)
     ·exact fun k wj hj => (zaa _ rfl (.inl rfl) rfl)
     ·exact fun k wj hj => zar _ rfl rfl (oT rfl)
     ·exact fun k wj hj => zal rfl rfl (oT rfl) (fun w => by simp [go_sem])
     ·exact fun k wj hj => zad rfl rfl (oT rfl) (fun w' hb => zch w' _ _ _ _ (hj.ptr hb 1 (by omega)) Ty68)
     ·exact fun k wj hj => (zaa _ rfl (.inl rfl) rfl)
     ·exact zf5 zgt rfl rfl (oT rfl) (oT rfl) (fun wj hj => hj.list HM0.out 1 (by omega) (by omega) HH.out HP0.out HPB.out HPt0.out HtB.out)
     ·exact fun k wj hj => (zaa _ rfl (.inl rfl) rfl)
     ·exact fun k wj hj => zar _ rfl rfl (oT rfl)
     ·exact fun k wj hj => zal rfl rfl (oT rfl) (fun w => by simp [go_sem])
     ·exact fun k wj hj => zbe rfl rfl (oT rfl) (OpKo.no) (OpKo.no) (fun w => zbp Ty31 32 (by kernel_rfl) none none (0) (8) (.inl ⟨rfl, rfl⟩) (.inl ⟨rfl, rfl⟩) (by omega) (by omega) (by omega) (by omega) (by omega) (by omega))
     ·exact fun k wj hj => zby zh8 rfl rfl (oT rfl) (fun w' hb => (zgl 8 8 (some ⟨L, 723, none⟩) (byF s.F 723) w' (hj.rd hb 723 (8 * 32) (u8v (byF s.F 723)) (by omega) HB723.out) (zbm _ _) (by omega) (by omega) (HP0.out.base HPB.out (hj.low HM0.out hb))).mono fun e w2 ⟨he, hb2⟩ => ⟨_, he, rfl, hb2⟩)
     ·exact fun k wj hj => (zaa _ rfl (.inl rfl) rfl)
     ·exact fun k wj hj => zar _ rfl rfl (oT rfl)
     ·exact fun k wj hj => zal rfl rfl (oT rfl) (fun w => by simp [go_sem])
     ·exact fun k wj hj => zbe rfl rfl (oT rfl) (OpKo.no) (OpKo.no) (fun w => zbp Ty38 1 (by kernel_rfl) none none (0) (8) (.inl ⟨rfl, rfl⟩) (.inl ⟨rfl, rfl⟩) (by omega) (by omega) (by omega) (by omega) (by omega) (by omega))
     ·exact fun k wj hj => zbi zof rfl rfl (oT rfl) OpK.const (fun w' hb => (zep 8 8 0 (some ⟨L, 979, none⟩) (fun q => nat (at_ s.F 979 q)) w' (hj.rd hb 979 8 (u64v fun q => nat (at_ s.F 979 q)) (by omega) HW979.out) (by omega) (by omega) (by omega)).mono fun e w2 ⟨he, hb2⟩ => ⟨_, he, rfl, hb2⟩)
     ·exact fun k wj hj => (zaa _ rfl (.inl rfl) rfl)
     ·exact fun k wj hj => zar _ rfl rfl (oT rfl)
     ·exact fun k wj hj => zal rfl rfl (oT rfl) (fun w => by simp [go_sem])
     ·exact fun k wj hj => zbe rfl rfl (oT rfl) (OpKo.no) (OpKo.no) (fun w => zbp Ty38 1 (by kernel_rfl) none none (0) (8) (.inl ⟨rfl, rfl⟩) (.inl ⟨rfl, rfl⟩) (by omega) (by omega) (by omega) (by omega) (by omega) (by omega))
     ·exact fun k wj hj => zbi zof rfl rfl (oT rfl) OpK.const (fun w' hb => (zep 8 8 1 (some ⟨L, 979, none⟩) (fun q => nat (at_ s.F 979 q)) w' (hj.rd hb 979 8 (u64v fun q => nat (at_ s.F 979 q)) (by omega) HW979.out) (by omega) (by omega) (by omega)).mono fun e w2 ⟨he, hb2⟩ => ⟨_, he, rfl, hb2⟩)
     ·exact fun k wj hj => zbi zrc rfl rfl (oT rfl) (oT rfl) (fun w' hb => (zem (fun q => numX 8 (at_ s.F 979) (0 * 32 + q)) (fun q => numX 8 (at_ s.F 979) (1 * 32 + q)) (fun _ => zgs _ _ _) (fun _ => zgs _ _ _) w' (HP0.out.base HPB.out (hj.low HM0.out hb))).mono fun e w2 ⟨he, hb2⟩ => ⟨_, he, rfl, hb2⟩)
     ·exact fun k wj hj => (zaa _ rfl (.inl rfl) rfl)
     ·exact fun k wj hj => zar _ rfl rfl (oT rfl)
     ·exact fun k wj hj => zal rfl rfl (oT rfl) (fun w => by simp [go_sem])
     ·exact fun k wj hj => zad rfl rfl (oT rfl) (fun w' hb => zch w' _ _ _ _ (hj.ptr hb 2 (by omega)) Ty68)
     ·exact fun k wj hj => (zaa _ rfl (.inl rfl) rfl)
     ·exact zf5 zgt rfl rfl (oT rfl) (oT rfl) (fun wj hj => hj.list HM0.out 2 (by omega) (by omega) HH.out HP0.out HPB.out HPt0.out HtB.out)
     ·exact fun k wj hj => (zaa _ rfl (.inl rfl) rfl)
     ·exact fun k wj hj => zar _ rfl rfl (oT rfl)
     ·exact fun k wj hj => zal rfl rfl (oT rfl) (fun w => by simp [go_sem])
     ·exact fun k wj hj => zad rfl rfl (oT rfl) (fun w' hb => zch w' _ _ _ _ (hj.ptr hb 3 (by omega)) Ty68)
     ·exact fun k wj hj => (zaa _ rfl (.inl rfl) rfl)
     ·exact zf5 zgt rfl rfl (oT rfl) (oT rfl) (fun wj hj => hj.list HM0.out 3 (by omega) (by omega) HH.out HP0.out HPB.out HPt0.out HtB.out)
     ·exact fun k wj hj => zad rfl rfl (oT rfl) (fun w' hb => zax w' b12 0 32 24 _ (u8v (bitsK s.F 4)) (fun i hi => by rw [Nat.zero_add]; exact (hj.row hb (HSk.out.row 0 rfl) HNb12.out).cell hi) Ty24 rfl s24)
     ·exact fun k wj hj => (zaa _ rfl (.inl rfl) rfl)
     ·exact fun k wj hj => zar _ rfl rfl (oT rfl)
     ·exact fun k wj hj => zal rfl rfl (oT rfl) (fun w => by simp [go_sem])
     ·exact fun k wj hj => zad rfl rfl (oT rfl) (fun w' hb => zax w' L 993 33 42 _ (at_ s.F 993) (fun i hi => hj.cell hb (993 + i) (by omega)) Ty42 rfl (by kernel_rfl))
     ·exact fun k wj hj => zby zji rfl rfl (oT rfl) (fun w' hb => (zd9 (at_ s.F 993) HC993.out w' (HP0.out.base HPB.out (hj.low HM0.out hb))).mono fun e w2 ⟨he, hb2⟩ => ⟨_, he, rfl, hb2⟩)
     ·exact fun k wj hj => (zaa _ rfl (.inl rfl) rfl)
     ·exact fun k wj hj => zar _ rfl rfl (oT rfl)
     ·exact fun k wj hj => zal rfl rfl (oT rfl) (fun w => by simp [go_sem])
     ·exact fun k wj hj => zad rfl rfl (oT rfl) (fun w' hb => zax w' L 1026 33 42 _ (at_ s.F 1026) (fun i hi => hj.cell hb (1026 + i) (by omega)) Ty42 rfl (by kernel_rfl))
     ·exact fun k wj hj => zby zji rfl rfl (oT rfl) (fun w' hb => (zd9 (at_ s.F 1026) HC1026.out w' (HP0.out.base HPB.out (hj.low HM0.out hb))).mono fun e w2 ⟨he, hb2⟩ => ⟨_, he, rfl, hb2⟩)
     ·exact fun k wj hj => (zaa _ rfl (.inl rfl) rfl)
     ·exact fun k wj hj => zar _ rfl rfl (oT rfl)
     ·exact fun k wj hj => zal rfl rfl (oT rfl) (fun w => by simp [go_sem])
     ·exact fun k wj hj => zad rfl rfl (oT rfl) (fun w' hb => zax w' L 1059 33 42 _ (at_ s.F 1059) (fun i hi => hj.cell hb (1059 + i) (by omega)) Ty42 rfl (by kernel_rfl))
     ·exact fun k wj hj => zby zji rfl rfl (oT rfl) (fun w' hb => (zd9 (at_ s.F 1059) HC1059.out w' (HP0.out.base HPB.out (hj.low HM0.out hb))).mono fun e w2 ⟨he, hb2⟩ => ⟨_, he, rfl, hb2⟩)
     ·exact fun k wj hj => (zaa _ rfl (.inl rfl) rfl)
     ·exact fun k wj hj => zar _ rfl rfl (oT rfl)
     ·exact fun k wj hj => zal rfl rfl (oT rfl) (fun w => by simp [go_sem])
     ·exact fun k wj hj => zad rfl rfl (oT rfl) (fun w' hb => zch w' _ _ _ _ (hj.ptr hb 4 (by omega)) Ty68)
     ·exact fun k wj hj => (zaa _ rfl (.inl rfl) rfl)
     ·exact zf5 zgt rfl rfl (oT rfl) (oT rfl) (fun wj hj => hj.list HM0.out 4 (by omega) (by omega) HH.out HP0.out HPB.out HPt0.out HtB.out)
     ·exact fun k wj hj => (zaa _ rfl (.inl rfl) rfl)
     ·exact fun k wj hj => zar _ rfl rfl (oT rfl)
     ·exact fun k wj hj => zal rfl rfl (oT rfl) (fun w => by simp [go_sem])
     ·exact fun k wj hj => zad rfl rfl (oT rfl) (fun w' hb => zax w' L 1093 432 47 _ (at_ s.F 1093) (fun i hi => hj.cell hb (1093 + i) (by omega)) Ty47 rfl (by kernel_rfl))
     ·exact fun k wj hj => zby zoe rfl rfl (oT rfl) (fun w' hb => (zgf (at_ s.F 1093) HC1093.out w' (HP0.out.base HPB.out (hj.low HM0.out hb))).mono fun e w2 ⟨he, hb2⟩ => ⟨_, he, rfl, hb2⟩)
     ·exact fun k wj hj => (zaa _ rfl (.inl rfl) rfl)
     ·exact fun k wj hj => zar _ rfl rfl (oT rfl)
     ·exact fun k wj hj => zal rfl rfl (oT rfl) (fun w => by simp [go_sem])
     ·exact fun k wj hj => zad rfl rfl (oT rfl) (fun w' hb => zax w' L 1525 432 47 _ (at_ s.F 1525) (fun i hi => hj.cell hb (1525 + i) (by omega)) Ty47 rfl (by kernel_rfl))
     ·exact fun k wj hj => zby zoe rfl rfl (oT rfl) (fun w' hb => (zgf (at_ s.F 1525) HC1525.out w' (HP0.out.base HPB.out (hj.low HM0.out hb))).mono fun e w2 ⟨he, hb2⟩ => ⟨_, he, rfl, hb2⟩)
     ·exact fun k wj hj => zo7 rfl rfl (OpKs.cons (oT rfl) (OpKs.cons (oT rfl) (OpKs.cons (oT rfl) (OpKs.cons (oT rfl) (OpKs.cons (oT rfl) (OpKs.cons (oT rfl) (OpKs.cons (oT rfl) (OpKs.cons (oT rfl) (OpKs.cons (oT rfl) (OpKs.cons (oT rfl) (OpKs.cons (oT rfl) (OpKs.cons (oT rfl) (OpKs.cons (oT rfl) (OpKs.cons (oT rfl) (OpKs.cons (oT rfl) (OpKs.cons (oT rfl) (OpKs.cons (oT rfl) (OpKs.cons (oT rfl) (OpKs.cons (oT rfl) (OpKs.cons (oT rfl) (OpKs.cons (oT rfl) (OpKs.cons (oT rfl) (OpKs.cons (oT rfl) (OpKs.cons (oT rfl) (OpKs.nil))))))))))))))))))))))))) (zo8 s XH XE (bitsK s.F 4) HXH.out HXE.out rfl)
     ·exact fun k wj hj => zrx wr.heap.size rfl rfl (Array.replicate 1024 (.int .u8 0)) (by kernel_rfl) 1024 (u8v fun _ => 0) (by simp) (zbg 1024 (.int .u8 0)) (hj.low HM0.out (Below.refl _ _)).size
     clear kI kN
     intro wN hjN
     have HJN := Hd hjN
     clear hjN
     simp only [fin, sI, SF.new, forall_eq]
     simp only [pcX]
     rintro _ ⟨b15, rfl, hb15, hr15⟩
     have hlr : b2 < wr.heap.size := HSk.out.lt 3 rfl
     have hsr : w.heap.size ≤ wr.heap.size := HSk.out.size
     have hlo := HJN.out.low HM0.out (Below.refl _ _)
     have hbN : base ≤ wN.heap.size := lT HL.out.lm.bw (lT hsr hlo.size)
     have HPN := Hd (HP0.out.base HPB.out hlo)
     have hr2 : wN.rowIs b2 24 32 (u8v fun _ => 0) := HJN.out.row (Below.refl _ _) (HSk.out.row 3 rfl) HNb2.out
     have hbw : base ≤ w.heap.size := HL.out.lm.bw
     have HT := Hd (((HS.nil wN).take hr2 (fun r hr => by cases hr)).take hr15 (fun r hr => by simp at hr; rw [hr]; show b2 ≠ b15; omega))
     have HDn := Hd (fun (w2 : World) (hc : Chg (fun b => b = b15 ∨ b = b2) wN w2) => HJN.out.done (S := fun b => b = b15 ∨ b = b2) HL.out.lm (HSk.out.out (by simp; omega)) hc (by
      rintro b (rfl | rfl)
      ·exact ⟨by omega, .inr ⟨_, _, hr15⟩⟩
      ·exact ⟨by omega, .inl hlr⟩))
     have HFu := Hd (zu7 s)
     clear HSk HM0 HP0 HPt0 HNb2 HNb5 HNb10 HNb12 HXHl HXEl HW979 HU0 HU33 HU720 HB1 HB141 HB397 HB723 HC34 HC43 HC654 HC993 HC1026 HC1059 HC1093 HC1525 HJN hr2 hr15 hlo HXH HXE HS0
     refine zds 88 (.tmp 15) (.tmp 205) rfl HT.out 0 rfl 0 1024 (u8v (stX s)) rfl rfl (by kernel_rfl) (by omega) (fun _ _ => rfl) (u8v (stX s)) (fun j hj => by rw [if_pos (by omega)]; rfl) ?_
     intro w5 hs
     have HT5 := Hd hs
     clear hs HT
     simp only [Act.put]
     obtain ⟨w00, hw00⟩ : ∃ w00 : World, w00 = wr := ⟨_, rfl⟩
     subst hw00
     go_wp2_with fail
     go_loopw [16] (fun i wr => ∃ (d p : Nat) (X : Nat → Nat) (F : Nat → Value), i = .int .i64 (p : Int) ∧ p = 2 ^ d ∧ d ≤ 5 ∧ HS wN wr [⟨b15, 88, 1024, F⟩, ⟨b2, 24, 32, u8v fun _ => 0⟩] ∧ (∀ i, i < p * 32 → F i = u8v X i) ∧ (∀ i, X i < 256) ∧ (∀ i, i < 32 → fullN d X i = stN s i)) (fun i _ => (intOf i).toNat)
     case atStart => exact ⟨5, 32, stX s, u8v (stX s), rfl, rfl, by omega, HT5.out, fun _ _ => rfl, zmr s, HFu.out⟩
     case round =>
      clear HT5 HFu
      obtain ⟨d, p, X, F, rfl, hp, hd, hs, hF, hX, hfl⟩ := hrel
      have HT := Hd hs
      have HF := Hd hF
      have HXl := Hd hX
      have HFl := Hd hfl
      clear hs hF hX hfl
      cases d with
      | zero =>
       obtain rfl : p = 1 := hp
       go_wp2_with (first
        | ((with_reducible refine at_l ?_); first
         | (refine zab rfl 228 rfl (.pointer (some ⟨b15, 0, none⟩)) ?_ ?_; (· exact zbb rfl rfl rfl (fun w => (zgh w b15 0 (by omega))) _))
         | (refine zae rfl 24 (.tmp 228) rfl 32 _ Ty24 rfl s24 ⟨b15, 0, none⟩ rfl (u8v X) (fun q hq => by rw [zai]; exact (HT.out.cell 0 q rfl (show q < 1024 by omega)).trans (congrArg some (HF.out q (by omega)))) ?_)
         | (refine zaf rfl 24 (.tmp 2) (.tmp 229) rfl HT.out 1 rfl (u8v X) rfl rfl (by kernel_rfl) (fun _ _ => rfl) ?_; intro wy hs; have HY := Hd hs; clear hs)))
       obtain ⟨u, k1, k2⟩ := HDn.out _ (HY.out.chg.mono (fun b _ ⟨r, hr, e⟩ => by
        simp only [List.set_cons_succ, List.set_cons_zero, List.mem_cons, List.not_mem_nil, or_false] at hr
        rcases hr with rfl | rfl
        ·exact .inl e.symm
        ·exact .inr e.symm))
       exact za5 rfl (HY.out.row 1 rfl) _ rfl Ty24 rfl s24 rfl ⟨u, by rw [show arr 32 (u8v X) = arr 32 (u8v (stN s)) from zca fun i hi => congrArg (fun k : Nat => Value.int .u8 (k : Int)) (HFl.out i hi)], k1, k2⟩
      | succ d =>
       obtain ⟨m, hm⟩ : ∃ m, m = 2 ^ d := ⟨_, rfl⟩
       obtain rfl : p = 2 * m := by rw [hp, hm, Nat.pow_succ]; omega
       have hm0 : 1 ≤ m := by rw [hm]; exact Nat.pow_pos (by omega)
       have hm16 : m ≤ 16 := by rw [hm]; exact (Nat.pow_le_pow_right (by omega) (show d ≤ 4 by omega) : 2 ^ d ≤ 2 ^ 4)
       have hm1 : 1 < 2 * m := by omega
       have HM := Hd hm
       have HT0 := Hd (HT.out.congr 0 rfl (g := HashDone.G m X F 0) (HashDone.zqf HF.out))
       clear hm hp HT HF
       go_wp2_with (first
        | ((with_reducible refine at_l ?_); refine zab rfl 211 rfl (.int .i64 (m : Int)) ?_ ?_; (· exact za1 rfl rfl rfl rfl (fun w => HashDone.quo2 m (by omega) w) _)))
       go_loopw [212] (fun t wr => ∃ j : Nat, t = .int .i64 (j : Int) ∧ j ≤ m ∧ HS wN wr [⟨b15, 88, 1024, HashDone.G m X F j⟩, ⟨b2, 24, 32, u8v fun _ => 0⟩]) (fun t _ => m - (intOf t).toNat)
       case atStart => exact ⟨0, rfl, by omega, HT0.out⟩
       case round =>
        clear HT0
        obtain ⟨j, rfl, hj, hs⟩ := hrel
        have HSq := Hd hs
        have HWq := Hd (hs.old (B := base) (hbN) (by simp; omega))
        have HSz := Hd (lT hbN hs.size)
        clear hs
        by_cases hjm : j < m
        ·go_wp2_with fail
         refine zao (l := [_, _, _, _, _, _, _, _, _, _, _, _]) (tl := []) (B := wr.heap.size) (w0 := wr) [sI (.int .i64 ((j : Nat) : Int)), sI (.int .i64 ((j : Nat) : Int)), sI (.int .i64 ((2 * j : Nat) : Int)), sI (.pointer (some ⟨b15, 2 * j * 32, none⟩)), sI (rootV (fun q => X (2 * j * 32 + q))), sI (.int .i64 ((j : Nat) : Int)), sI (.int .i64 ((2 * j : Nat) : Int)), sI (.int .i64 ((2 * j + 1 : Nat) : Int)), sI (.pointer (some ⟨b15, (2 * j + 1) * 32, none⟩)), sI (rootV (fun q => X ((2 * j + 1) * 32 + q))), sI (rootV (shaB (catN 32 (fun q => X (2 * j * 32 + q)) (fun q => X ((2 * j + 1) * 32 + q))) 64)), sI (.pointer (some ⟨b15, j * 32, none⟩))] (by kernel_rfl) (by kernel_rfl) rfl lR (Below.refl _ _) ⟨?_, ?_, ?_, ?_, ?_, ?_, ?_, ?_, ?_, ?_, ?_, ?_, trivial⟩ ?_
         ·exact (zaa _ rfl (.inl rfl) rfl)
         ·exact (zaa _ rfl (.inl rfl) rfl)
         ·exact zbn 2 j (by omega) rfl rfl OpK.const (oT rfl)
         ·exact zak rfl rfl (oT rfl) (oT rfl) (fun w => zgh w b15 (2 * j) (by omega))
         ·exact zad rfl rfl (oT rfl) (fun w' hb => zax w' b15 (2 * j * 32) 32 24 _ (u8v (fun q => X (2 * j * 32 + q))) (fun i hi => ((zaj (HSq.out.row 0 rfl) hb (HSq.out.row 0 rfl).lt).cell (i := 2 * j * 32 + i) (show 2 * j * 32 + i < 1024 by omega)).trans (congrArg some (HashDone.g_at (by omega) (by omega) hi))) Ty24 rfl s24)
         ·exact (zaa _ rfl (.inl rfl) rfl)
         ·exact zbn 2 j (by omega) rfl rfl OpK.const (oT rfl)
         ·exact zcc (2 * j) 1 (by omega) rfl rfl (oT rfl) OpK.const
         ·exact zak rfl rfl (oT rfl) (oT rfl) (fun w => zgh w b15 (2 * j + 1) (by omega))
         ·exact zad rfl rfl (oT rfl) (fun w' hb => zax w' b15 ((2 * j + 1) * 32) 32 24 _ (u8v (fun q => X ((2 * j + 1) * 32 + q))) (fun i hi => ((zaj (HSq.out.row 0 rfl) hb (HSq.out.row 0 rfl).lt).cell (i := (2 * j + 1) * 32 + i) (show (2 * j + 1) * 32 + i < 1024 by omega)).trans (congrArg some (HashDone.g_at (by omega) (by omega) hi))) Ty24 rfl s24)
         ·exact zbi zrc rfl rfl (oT rfl) (oT rfl) (fun w' hb => (zem (fun q => X (2 * j * 32 + q)) (fun q => X ((2 * j + 1) * 32 + q)) (fun _ => HXl.out _) (fun _ => HXl.out _) w' (HPN.out.belowB HPB.out (HWq.out.trans (hb.mono HSz.out)))).mono fun e w'' ⟨he, hb2⟩ => ⟨_, he, rfl, hb2⟩)
         ·exact zak rfl rfl (oT rfl) (oT rfl) (fun w => zgh w b15 (j) (by omega))
         ·intro w' hb
          simp only [fin, sI, forall_eq]
          simp only [pcX]
          have hs := HSq.out.below hb
          refine zds 24 (.tmp 226) (.tmp 225) rfl hs 0 rfl (j * 32) 32 (u8v (shaB (catN 32 (fun q => X (2 * j * 32 + q)) (fun q => X ((2 * j + 1) * 32 + q))) 64)) rfl rfl (by kernel_rfl) (by omega) (fun _ _ => rfl) (HashDone.G m X F (j + 1)) (HashDone.zqe hjm) ?_
          clear hs hb
          intro wy hs
          have HY := Hd hs
          clear hs
          simp only [seqWp, Act.put]
          go_wp2_with fail
          go_roundw
          case rel => exact ⟨j + 1, by go_num, by omega, HY.out⟩
          case measure => simp [intOf]; omega
        ·obtain rfl : j = m := by omega
         go_wp2_with (first
          | ((with_reducible refine at_l ?_); refine zab rfl 209 rfl (.int .i64 (j : Int)) ?_ ?_; (· exact za1 rfl rfl rfl rfl (fun w => HashDone.quo2 j (by omega) w) _)))
         go_roundw
         case rel => exact ⟨d, j, lvl X, HashDone.G j X F j, rfl, HM.out, by omega, HSq.out, HashDone.zti, HashDone.zqd X, fun i hi => (zgb d X i hi).symm.trans (HFl.out i hi)⟩
         case measure => simp [intOf]; omega

end Go.Proofs.YtomilckcgmhfcaaDoor
