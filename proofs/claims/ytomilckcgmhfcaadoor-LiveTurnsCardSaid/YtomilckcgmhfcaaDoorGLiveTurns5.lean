/- Lemmas that the proof stands on. -/
import Derived.Test.YtomilckcgmhfcaaDoorGLiveTurns4
namespace Go.Proofs.YtomilckcgmhfcaaDoor
set_option maxRecDepth 40000
set_option maxHeartbeats 64000000
open Go.RowKit
theorem zlp (s : StV) (w : World) (hS : StOk w w.heap.size s) (hR : RightF s) (hp : RefPkg w) :
 Calls Tryd.prog 42 #[.agg (arr 1957 s.F)] w fun e w' => e = .returned (.tuple #[rootV (stN s), .int .i64 0]) ∧ Below w.heap.size w w' := by
 have HP := Hd hp
 have HC := Hd hS
 have HR := Hd hR
 have HS0 := Hd (HS.nil w)
 have HSl := Hd (show ∀ k, k < 8 → s.F (979 + k) = .int .u64 ((nat (at_ s.F 979 k) : Nat) : Int) from fun k hk => (hS.sc.u64 (979 + k) (RefRoot.zta k hk)).1)
 have HBt := Hd (show ∀ i, i < 4 → s.F (989 + i) = .bool (bln (s.F (989 + i))) from fun i hi => hS.sc.bool (989 + i) (RefRoot.ztb i hi))
 have hnH := hR.nH
 have hnE := hR.nE
 have hnV := hR.n
 have hnB : s.nB ≤ 65536 := by rw [hR.nB]; exact hR.n
 have hnP : s.nP ≤ 65536 := by rw [hR.nP]; exact hR.n
 have hnC : s.nC ≤ 65536 := by rw [hR.nC]; exact hR.n
 have hnS : s.nS ≤ 65536 := by rw [hR.nS]; exact hR.n
 have htH : decide ((1024 : Int) < (s.nH : Int)) = false := decide_eq_false (by have := hR.nH; omega)
 have htE : decide ((8 : Int) < (s.nE : Int)) = false := decide_eq_false (by have := hR.nE; omega)
 have htV : decide ((65536 : Int) < (s.nV : Int)) = false := decide_eq_false (by have := hR.n; omega)
 have htB : decide ((65536 : Int) < (s.nB : Int)) = false := decide_eq_false (by have := hR.n; have := hR.nB; omega)
 have htP : decide ((65536 : Int) < (s.nP : Int)) = false := decide_eq_false (by have := hR.n; have := hR.nP; omega)
 have htC : decide ((65536 : Int) < (s.nC : Int)) = false := decide_eq_false (by have := hR.n; have := hR.nC; omega)
 have htS : decide ((65536 : Int) < (s.nS : Int)) = false := decide_eq_false (by have := hR.n; have := hR.nS; omega)
 clear hp hS hR
 go_enter Tryd.func42, Tryd.ntmps42
 have tk9 := Tok.mk 9
 go_wp2_with (first
  | ((with_reducible refine at_l ?_); first
   | (refine zaz rfl 49 _ 1 rfl rfl HS0.out 1957 s.F rfl ?_; intro b1 w1 hb1 hc1 hs; have HS1 := Hd hs; clear hs)
   | (refine zac rfl 24 2 rfl rfl HS1.out _ z24 32 (u8v fun _ => 0) n24 f24 ?_; intro b2 w2 hb2 hc2 hs; have HS2 := Hd hs; clear hs)
   | (refine zac rfl 122 5 rfl rfl HS2.out (Array.replicate 768 (.int .u8 0)) (by kernel_rfl) 768 (u8v fun _ => 0) (by simp) (zbg 768 (.int .u8 0)) ?_; intro b5 w3 hb5 hc5 hs; have HM0 : Hid (RfS w w3 b1 b2 b5 s 0) := Hd ⟨⟨hb1, hb2, hb5⟩, _, hs, fun j hj => absurd hj (by omega)⟩; clear hs HS2 HS1)
   | (refine zab rfl 35 rfl (.int .u64 ((nat (s.F 0) : Nat) : Int)) ?_ ?_; (· exact zbf .u64 rfl rfl Ty22 ((HM0.out.cell 0 (by omega)).trans (congrArg some (HC.out.sc.u64 0 (by kernel_rfl)).1))))
   | (refine za8 rfl (.tmp 38) (.tmp 37) rfl HM2.out (by omega) (numN s.F 0) (fun _ _ => rfl) rfl rfl (by kernel_rfl) ?_; intro wS1 hm; have HM3 := Hd hm; clear hm HM2)
   | (refine zag rfl 24 (.tmp 39) rfl b1 1 32 (u8v (byF s.F 1)) rfl _ (fun q hq => (HM3.out.cell (1 + q) (by omega)).trans (congrArg some (RefRoot.zlu HC.out.sc 1 32 (by kernel_rfl) q hq))) Ty24 rfl s24 _ rfl ?_)
   | (refine za8 rfl (.tmp 41) (.tmp 40) rfl HM3.out (by omega) (byF s.F 1) (fun _ _ => rfl) rfl rfl (by kernel_rfl) ?_; intro wS2 hm; have HM4 := Hd hm; clear hm HM3)
   | (refine zab rfl 43 rfl (.int .u64 ((nat (s.F 33) : Nat) : Int)) ?_ ?_; (· exact zbf .u64 rfl rfl Ty22 ((HM4.out.cell 33 (by omega)).trans (congrArg some (HC.out.sc.u64 33 (by kernel_rfl)).1))))
   | (refine za8 rfl (.tmp 46) (.tmp 45) rfl HM6.out (by omega) (numN s.F 33) (fun _ _ => rfl) rfl rfl (by kernel_rfl) ?_; intro wS3 hm; have HM7 := Hd hm; clear hm HM6)
   | (refine zag rfl 28 (.tmp 48) rfl b1 34 9 (at_ s.F 34) rfl _ (fun q hq => HM7.out.cell (34 + q) (by omega)) Ty28 rfl (by kernel_rfl) _ rfl ?_)
   | (refine za8 rfl (.tmp 53) (.tmp 51) rfl HM8.out (by omega) (forkN (at_ s.F 34)) (fun _ _ => rfl) rfl rfl (by kernel_rfl) ?_; intro wS4 hm; have HM9 := Hd hm; clear hm HM8)
   | (refine zag rfl 30 (.tmp 59) rfl b1 43 98 (at_ s.F 43) rfl _ (fun q hq => HM9.out.cell (43 + q) (by omega)) Ty30 rfl (by kernel_rfl) _ rfl ?_)
   | (refine za8 rfl (.tmp 64) (.tmp 62) rfl HM10.out (by omega) (headerN (at_ s.F 43)) (fun _ _ => rfl) rfl rfl (by kernel_rfl) ?_; intro wS5 hm; have HM11 := Hd hm; clear hm HM10))
  | (have tx := tk9; clear tx; go_at_call 67; refine (zes (nat (s.F 0)) _).mono ?_; rintro e w' ⟨A', c', rfl, hc, hr, hb⟩; have HN := Hd hr; have HM1 := Hd (HM0.out.below hb); clear HM0; clear hc hr hb; clear tk9; have tk10 := Tok.mk 10)
  | (have tx := tk10; clear tx; go_at_call 66; refine (zfa 8 c' A' (leB (nat (s.F 0))) _ HN.out (zbq _) rfl (HP.out.below HM1.out.bel)).mono ?_; rintro e w' ⟨rfl, hb⟩; rw [show padN 8 (leB (nat (s.F 0))) = numN s.F 0 from rfl]; have HM2 := Hd (HM1.out.below hb); clear HM1; clear hb HN; clear tk10; have tk11 := Tok.mk 11)
  | (have tx := tk11; clear tx; go_at_call 67; refine (zes (nat (s.F 33)) _).mono ?_; rintro e w' ⟨A', c', rfl, hc, hr, hb⟩; have HN := Hd hr; have HM5 := Hd (HM4.out.below hb); clear HM4; clear hc hr hb; clear tk11; have tk12 := Tok.mk 12)
  | (have tx := tk12; clear tx; go_at_call 66; refine (zfa 8 c' A' (leB (nat (s.F 33))) _ HN.out (zbq _) rfl (HP.out.below HM5.out.bel)).mono ?_; rintro e w' ⟨rfl, hb⟩; rw [show padN 8 (leB (nat (s.F 33))) = numN s.F 33 from rfl]; have HM6 := Hd (HM5.out.below hb); clear HM5; clear hb HN; clear tk12; have tk13 := Tok.mk 13)
  | (have tx := tk13; clear tx; go_at_call 68; refine (zs9 (at_ s.F 34) (HC.out.sc.at_ 34 9 28 (by kernel_rfl) (zbl (n := 9) Ty28 (by kernel_rfl))) _ (HP.out.below HM7.out.bel)).mono ?_; rintro e w' ⟨rfl, hb⟩; have HM8 := Hd (HM7.out.below hb); clear HM7; clear hb; clear tk13; have tk14 := Tok.mk 14)
  | (have tx := tk14; clear tx; go_at_call 69; refine (zpf (at_ s.F 43) (HC.out.sc.at_ 43 98 30 (by kernel_rfl) (zbl (n := 98) Ty30 (by kernel_rfl))) _ (HP.out.below HM9.out.bel)).mono ?_; rintro e w' ⟨rfl, hb⟩; have HM10 := Hd (HM9.out.below hb); clear HM9; clear hb; clear tk14; have tk15 := Tok.mk 15))
 go_loopw [6, 7] (fun u i wr => ∃ (k : Nat) (A : Option Addr) (c : Nat), u = .slice A (k) c ∧ i = .int .i64 (k : Int) ∧ k ≤ 8 ∧ OwnZ wr wS5.heap.size 24 32 A (k) c (u8v (byF s.F 141)) ∧ Below wS5.heap.size wS5 wr) (fun _ i _ => 8 - (intOf i).toNat)
 case atStart => exact ⟨0, none, 0, rfl, rfl, Nat.zero_le _, OwnZ.nil _ _ _ _ _, Below.refl _ _⟩
 case round =>
  obtain ⟨k, A5, c5, rfl, rfl, hk, ho, hb⟩ := hrel
  have HO := Hd ho
  have HB := Hd hb
  have hsz := hb.size
  have HSr := Hd (HM11.out.below hb)
  clear ho hb
  by_cases hk8 : k < 8
  ·skip
   have tk16 := Tok.mk 16
   go_wp2_with (first
    | ((with_reducible refine at_l ?_); first
     | (refine zac rfl 24 8 rfl rfl (HS.nil wr) _ z24 32 (u8v fun _ => 0) n24 f24 ?_; intro bq v1 hbq hcq hs; have HQ1 := Hd hs; clear hs)
     | (refine zab rfl 75 rfl (.pointer (some ⟨b1, 141 + k * 32, none⟩)) ?_ ?_; (· exact zbb rfl rfl rfl (fun w => RefRoot.idxR8 w b1 141 k hk8) _))
     | (refine zag rfl 24 (.tmp 75) rfl b1 (141 + k * 32) 32 (u8v (fun q => byF s.F 141 (k * 32 + q))) rfl _ (fun q hq => by rw [Nat.add_assoc]; exact ((HSr.out.below (HQ1.out.out (by simp; omega))).cell (141 + (k * 32 + q)) (by omega)).trans (congrArg some (RefRoot.zlu HC.out.sc 141 256 (by kernel_rfl) (k * 32 + q) (by omega)))) Ty24 rfl s24 _ rfl ?_)
     | (refine zaf rfl 24 (.tmp 8) (.tmp 76) rfl HQ1.out 0 rfl (u8v (fun q => byF s.F 141 (k * 32 + q))) rfl rfl (by kernel_rfl) (fun _ _ => rfl) ?_; intro v4 hs; have HQ4 := Hd hs; clear hs)
     | (refine zae rfl 24 (.tmp 8) rfl 32 _ Ty24 rfl s24 ⟨bq, 0, none⟩ rfl (u8v (fun q => byF s.F 141 (k * 32 + q))) (fun q hq => by rw [zai]; exact (HQ4.out.row 0 rfl).cell hq) ?_)
     | (refine zbu rfl Ty32 s24 (by omega) (by omega) z24 _ rfl (u8v (fun q => byF s.F 141 (k * 32 + q))) rfl HQ4.out ?_; intro bn v5 hbn hcn hs; have HQ5 := Hd hs; clear hs))
    | (at_builtin; refine zba _ (.tmp 77) (.tmp 79) 32 wS5.heap.size i24 Ty32 (by rfl) (by omega) rfl rfl (k + 1) (u8v (byF s.F 141)) rfl rfl (HO.out.all (HQ5.out.out (by simp; omega))) (Rd.of_row (n := 1 * 32) (HQ5.out.row 0 rfl) lR (HQ5.out.lt 0 rfl)) (fun _ _ => rfl) rfl (RefRoot.zf7 (fun _ _ => rfl)) ⟨by omega, by omega⟩ (lT hsz HQ5.out.size) ?_; intro A' c' v6 ho9 hg9 ha9; have HO9 := Hd ho9; have HG9 := Hd hg9; clear ho9 hg9 ha9))
   go_roundw
   case rel => exact ⟨k + 1, A', c', rfl, by go_num, by omega, HO9.out, za4 (HB.out.trans ((HQ5.out.out (by simp; omega)).mono hsz)) HG9.out (lT hsz HQ5.out.size) (fun ad e => (HO.out.base_le ad e).1)⟩
   case measure => simp [intOf]; omega
  ·obtain rfl : k = 8 := by omega
   obtain ⟨wo5, hwo⟩ : ∃ wo : World, wo = wr := ⟨_, rfl⟩
   subst hwo
   have HM12 := HSr
   clear HM11 HSr HB
   have tk17 := Tok.mk 17
   go_wp2_with (first
    | (have tx := tk17; clear tx; go_at_call 70; refine (zbt 8 c5 8 A5 (byF s.F 141) _ HO.out.rd (zbm s.F 141) HO.out.cap (by omega) (by omega) (HP.out.below HM12.out.bel)).mono ?_; rintro e w' ⟨rfl, hb⟩; have HM13 := Hd (HM12.out.below hb); clear HM12; clear hb HO; clear tk17; have tk18 := Tok.mk 18)
    | ((with_reducible refine at_l ?_); refine za8 rfl (.tmp 83) (.tmp 82) rfl HM13.out (by omega) (treeN (dep 8) 8 (byF s.F 141)) (fun _ _ => rfl) rfl rfl (by kernel_rfl) ?_; intro wS6 hm; have HM14 := Hd hm; clear hm HM13))
   go_loopw [9, 10] (fun u i wr => ∃ (k : Nat) (A : Option Addr) (c : Nat), u = .slice A (k) c ∧ i = .int .i64 (k : Int) ∧ k ≤ 8 ∧ OwnZ wr wS6.heap.size 24 32 A (k) c (u8v (byF s.F 397)) ∧ Below wS6.heap.size wS6 wr) (fun _ i _ => 8 - (intOf i).toNat)
   case atStart => exact ⟨0, none, 0, rfl, rfl, Nat.zero_le _, OwnZ.nil _ _ _ _ _, Below.refl _ _⟩
   case round =>
    obtain ⟨k, A6, c6, rfl, rfl, hk, ho, hb⟩ := hrel
    have HO := Hd ho
    have HB := Hd hb
    have hsz := hb.size
    have HSr := Hd (HM14.out.below hb)
    clear ho hb
    by_cases hk8 : k < 8
    ·skip
     have tk19 := Tok.mk 19
     go_wp2_with (first
      | ((with_reducible refine at_l ?_); first
       | (refine zac rfl 24 11 rfl rfl (HS.nil wr) _ z24 32 (u8v fun _ => 0) n24 f24 ?_; intro bq v1 hbq hcq hs; have HQ1 := Hd hs; clear hs)
       | (refine zab rfl 90 rfl (.pointer (some ⟨b1, 397 + k * 32, none⟩)) ?_ ?_; (· exact zbb rfl rfl rfl (fun w => RefRoot.idxR8 w b1 397 k hk8) _))
       | (refine zag rfl 24 (.tmp 90) rfl b1 (397 + k * 32) 32 (u8v (fun q => byF s.F 397 (k * 32 + q))) rfl _ (fun q hq => by rw [Nat.add_assoc]; exact ((HSr.out.below (HQ1.out.out (by simp; omega))).cell (397 + (k * 32 + q)) (by omega)).trans (congrArg some (RefRoot.zlu HC.out.sc 397 256 (by kernel_rfl) (k * 32 + q) (by omega)))) Ty24 rfl s24 _ rfl ?_)
       | (refine zaf rfl 24 (.tmp 11) (.tmp 91) rfl HQ1.out 0 rfl (u8v (fun q => byF s.F 397 (k * 32 + q))) rfl rfl (by kernel_rfl) (fun _ _ => rfl) ?_; intro v4 hs; have HQ4 := Hd hs; clear hs)
       | (refine zae rfl 24 (.tmp 11) rfl 32 _ Ty24 rfl s24 ⟨bq, 0, none⟩ rfl (u8v (fun q => byF s.F 397 (k * 32 + q))) (fun q hq => by rw [zai]; exact (HQ4.out.row 0 rfl).cell hq) ?_)
       | (refine zbu rfl Ty32 s24 (by omega) (by omega) z24 _ rfl (u8v (fun q => byF s.F 397 (k * 32 + q))) rfl HQ4.out ?_; intro bn v5 hbn hcn hs; have HQ5 := Hd hs; clear hs))
      | (at_builtin; refine zba _ (.tmp 92) (.tmp 94) 32 wS6.heap.size i24 Ty32 (by rfl) (by omega) rfl rfl (k + 1) (u8v (byF s.F 397)) rfl rfl (HO.out.all (HQ5.out.out (by simp; omega))) (Rd.of_row (n := 1 * 32) (HQ5.out.row 0 rfl) lR (HQ5.out.lt 0 rfl)) (fun _ _ => rfl) rfl (RefRoot.zf7 (fun _ _ => rfl)) ⟨by omega, by omega⟩ (lT hsz HQ5.out.size) ?_; intro A' c' v6 ho9 hg9 ha9; have HO9 := Hd ho9; have HG9 := Hd hg9; clear ho9 hg9 ha9))
     go_roundw
     case rel => exact ⟨k + 1, A', c', rfl, by go_num, by omega, HO9.out, za4 (HB.out.trans ((HQ5.out.out (by simp; omega)).mono hsz)) HG9.out (lT hsz HQ5.out.size) (fun ad e => (HO.out.base_le ad e).1)⟩
     case measure => simp [intOf]; omega
    ·obtain rfl : k = 8 := by omega
     obtain ⟨wo6, hwo⟩ : ∃ wo : World, wo = wr := ⟨_, rfl⟩
     subst hwo
     have HM15 := HSr
     clear HM14 HSr HB
     have tk20 := Tok.mk 20
     go_wp2_with (first
      | (have tx := tk20; clear tx; go_at_call 70; refine (zbt 8 c6 8 A6 (byF s.F 397) _ HO.out.rd (zbm s.F 397) HO.out.cap (by omega) (by omega) (HP.out.below HM15.out.bel)).mono ?_; rintro e w' ⟨rfl, hb⟩; have HM16 := Hd (HM15.out.below hb); clear HM15; clear hb HO; clear tk20; have tk21 := Tok.mk 21)
      | ((with_reducible refine at_l ?_); first
       | (refine za8 rfl (.tmp 98) (.tmp 97) rfl HM16.out (by omega) (treeN (dep 8) 8 (byF s.F 397)) (fun _ _ => rfl) rfl rfl (by kernel_rfl) ?_; intro wS7 hm; have HM17 := Hd hm; clear hm HM16)
       | (refine zab rfl 100 rfl (.slice s.aH s.nH s.cH) ?_ ?_; (· exact zan rfl rfl Ty32 (HM17.out.cell 653 (by omega)) HC.out.f7))
       | (refine zab rfl 106 rfl (.slice s.aH s.nH s.cH) ?_ ?_; (· exact zan rfl rfl Ty32 (HM17.out.cell 653 (by omega)) HC.out.f7))))
     go_loopw [12, 13] (fun u i wr => ∃ (k : Nat) (A : Option Addr) (c : Nat), u = .slice A (k) c ∧ i = .int .i64 (k : Int) ∧ k ≤ s.nH ∧ OwnZ wr wS7.heap.size 24 32 A (k) c (u8v (b8 s.His)) ∧ Below wS7.heap.size wS7 wr) (fun _ i _ => s.nH - (intOf i).toNat)
     case atStart => exact ⟨0, none, 0, rfl, rfl, Nat.zero_le _, OwnZ.nil _ _ _ _ _, Below.refl _ _⟩
     case round =>
      obtain ⟨k, A7, c7, rfl, rfl, hk, ho, hb⟩ := hrel
      have HO := Hd ho
      have HB := Hd hb
      have hsz := hb.size
      have HSr := Hd (HM17.out.below hb)
      clear ho hb
      by_cases h1 : k < s.nH
      ·skip
       obtain ⟨ad, hA⟩ : ∃ ad, s.aH = some ad := by
        obtain ⟨ad, e, _⟩ := HC.out.rH (show 0 < s.nH * 32 by omega); exact ⟨ad, e⟩
       have HA := Hd hA
       clear hA
       have tk22 := Tok.mk 22
       go_wp2_with (first
        | ((with_reducible refine at_l ?_); first
         | (refine zac rfl 24 14 rfl rfl (HS.nil wr) _ z24 32 (u8v fun _ => 0) n24 f24 ?_; intro bq v1 hbq hcq hs; have HQ1 := Hd hs; clear hs)
         | (refine zab rfl 106 rfl (.slice s.aH s.nH s.cH) ?_ ?_; (· exact zan rfl rfl Ty32 (HSr.out.cell 653 (by omega)) HC.out.f7))
         | (refine zab rfl 112 rfl (.slice s.aH s.nH s.cH) ?_ ?_; (· exact zan rfl rfl Ty32 ((HSr.out.below (HQ1.out.out (by simp; omega))).cell 653 (by omega)) HC.out.f7))
         | (refine zab rfl 114 rfl (.pointer (some (ad.add (k * 32)))) ?_ ?_; (· exact zbb rfl rfl rfl (fun w => by rw [HA.out]; exact zaw (z := 32) w Ty32 (by kernel_rfl) ad h1) _))
         | (refine zae rfl 24 (.tmp 114) rfl 32 _ Ty24 rfl s24 _ rfl (u8v fun q => b8 s.His (k * 32 + q)) (fun q hq => by rw [zb1]; exact ((HC.out.below (HSr.out.below (HQ1.out.out (by simp; omega))).bel).rH.cell_' HA.out (show k * 32 + q < s.nH * 32 by omega)).trans (congrArg some (RefRoot.zw4 HC.out (k * 32 + q) (by omega)))) ?_)
         | (refine zaf rfl 24 (.tmp 14) (.tmp 115) rfl HQ1.out 0 rfl (u8v (fun q => b8 s.His (k * 32 + q))) rfl rfl (by kernel_rfl) (fun _ _ => rfl) ?_; intro v4 hs; have HQ4 := Hd hs; clear hs)
         | (refine zae rfl 24 (.tmp 14) rfl 32 _ Ty24 rfl s24 ⟨bq, 0, none⟩ rfl (u8v (fun q => b8 s.His (k * 32 + q))) (fun q hq => by rw [zai]; exact (HQ4.out.row 0 rfl).cell hq) ?_)
         | (refine zbu rfl Ty32 s24 (by omega) (by omega) z24 _ rfl (u8v (fun q => b8 s.His (k * 32 + q))) rfl HQ4.out ?_; intro bn v5 hbn hcn hs; have HQ5 := Hd hs; clear hs))
        | (at_builtin; refine zba _ (.tmp 116) (.tmp 118) 32 wS7.heap.size i24 Ty32 (by rfl) (by omega) rfl rfl (k + 1) (u8v (b8 s.His)) rfl rfl (HO.out.all (HQ5.out.out (by simp; omega))) (Rd.of_row (n := 1 * 32) (HQ5.out.row 0 rfl) lR (HQ5.out.lt 0 rfl)) (fun _ _ => rfl) rfl (RefRoot.zf7 (fun _ _ => rfl)) ⟨by omega, by omega⟩ (lT hsz HQ5.out.size) ?_; intro A' c' v6 ho9 hg9 ha9; have HO9 := Hd ho9; have HG9 := Hd hg9; clear ho9 hg9 ha9))
       go_roundw
       case rel => exact ⟨k + 1, A', c', rfl, by go_num, by omega, HO9.out, za4 (HB.out.trans ((HQ5.out.out (by simp; omega)).mono hsz)) HG9.out (lT hsz HQ5.out.size) (fun ad e => (HO.out.base_le ad e).1)⟩
       case measure => simp [intOf]; omega
      ·obtain rfl : s.nH = k := by omega
       obtain ⟨wo7, hwo⟩ : ∃ wo : World, wo = wr := ⟨_, rfl⟩
       subst hwo
       have HM18 := HSr
       clear HM17 HSr HB
       have tk23 := Tok.mk 23
       go_wp2_with (first
        | ((with_reducible refine at_l ?_); first
         | (refine zab rfl 106 rfl (.slice s.aH s.nH s.cH) ?_ ?_; (· exact zan rfl rfl Ty32 (HM18.out.cell 653 (by omega)) HC.out.f7))
         | (refine zdl rfl (.tmp 122) (.tmp 121) rfl HM19.out (by omega) (treeN (dep 1024) s.nH (b8 s.His)) rfl rfl (by kernel_rfl) ?_; intro wT7 hm; have HT := Hd hm; have HM20 := Hd hm.rs; clear hm HM19)
         | (refine zag rfl 24 (.tmp 123) rfl b5 (7 * 32) 32 (u8v (treeN (dep 1024) s.nH (b8 s.His))) rfl _ HT.out.at_ Ty24 rfl s24 _ rfl ?_; clear HT)
         | (refine zab rfl 126 rfl (.slice s.aH s.nH s.cH) ?_ ?_; (· exact zan rfl rfl Ty32 (HM20.out.cell 653 (by omega)) HC.out.f7))
         | (refine zab rfl 128 rfl (.int .u64 (s.nH : Int)) ?_ ?_; (· exact zdc rfl rfl (fun w => TreeRef.cvu s.nH (by omega) w) _))
         | (refine za8 rfl (.tmp 130) (.tmp 129) rfl HM21.out (by omega) (lmixN (treeN (dep 1024) s.nH (b8 s.His)) s.nH) (fun _ _ => rfl) rfl rfl (by kernel_rfl) ?_; intro wS8 hm; have HM22 := Hd hm; clear hm HM21)
         | (refine zag rfl 34 (.tmp 132) rfl b1 654 65 (at_ s.F 654) rfl _ (fun q hq => HM22.out.cell (654 + q) (by omega)) Ty34 rfl (by kernel_rfl) _ rfl ?_)
         | (refine za8 rfl (.tmp 137) (.tmp 135) rfl HM23.out (by omega) (eth1N (at_ s.F 654)) (fun _ _ => rfl) rfl rfl (by kernel_rfl) ?_; intro wS9 hm; have HM24 := Hd hm; clear hm HM23)
         | (refine zab rfl 143 rfl (.slice s.aE s.nE s.cE) ?_ ?_; (· exact zan rfl rfl Ty35 (HM24.out.cell 719 (by omega)) HC.out.f9))
         | (refine zab rfl 149 rfl (.slice s.aE s.nE s.cE) ?_ ?_; (· exact zan rfl rfl Ty35 (HM24.out.cell 719 (by omega)) HC.out.f9)))
        | (have tx := tk23; clear tx; go_at_call 70; refine (zbt s.nH c7 1024 A7 (b8 s.His) _ HO.out.rd (zcz s.His) HO.out.cap (by omega) (by omega) (HP.out.below HM18.out.bel)).mono ?_; rintro e w' ⟨rfl, hb⟩; have HM19 := Hd (HM18.out.below hb); clear HM18; clear hb HO; clear tk23; have tk24 := Tok.mk 24)
        | (have tx := tk24; clear tx; go_at_call 71; refine (ze4 (treeN (dep 1024) s.nH (b8 s.His)) (za9 (zcz s.His) _ _) s.nH _ (HP.out.below HM20.out.bel)).mono ?_; rintro e w' ⟨rfl, hb⟩; have HM21 := Hd (HM20.out.below hb); clear HM20; clear hb; clear tk24; have tk25 := Tok.mk 25)
        | (have tx := tk25; clear tx; go_at_call 72; refine (znd (at_ s.F 654) (HC.out.sc.at_ 654 65 34 (by kernel_rfl) (zbl (n := 65) Ty34 (by kernel_rfl))) _ (HP.out.below HM22.out.bel)).mono ?_; rintro e w' ⟨rfl, hb⟩; have HM23 := Hd (HM22.out.below hb); clear HM22; clear hb; clear tk25; have tk26 := Tok.mk 26))
       go_loopw [15, 16] (fun u i wr => ∃ (k : Nat) (A : Option Addr) (c : Nat), u = .slice A (k) c ∧ i = .int .i64 (k : Int) ∧ k ≤ s.nE ∧ OwnZ wr wS9.heap.size 24 32 A (k) c (u8v (votX s.Vot)) ∧ Below wS9.heap.size wS9 wr) (fun _ i _ => s.nE - (intOf i).toNat)
       case atStart => exact ⟨0, none, 0, rfl, rfl, Nat.zero_le _, OwnZ.nil _ _ _ _ _, Below.refl _ _⟩
       case round =>
        obtain ⟨k, A9, c9, rfl, rfl, hk, ho, hb⟩ := hrel
        have HO := Hd ho
        have HB := Hd hb
        have hsz := hb.size
        have HSr := Hd (HM24.out.below hb)
        clear ho hb
        by_cases h1 : k < s.nE
        ·skip
         obtain ⟨ad, hA⟩ : ∃ ad, s.aE = some ad := by
          obtain ⟨ad, e, _⟩ := HC.out.rE (show 0 < s.nE * 65 by omega); exact ⟨ad, e⟩
         have HA := Hd hA
         clear hA
         have tk27 := Tok.mk 27
         go_wp2_with (first
          | ((with_reducible refine at_l ?_); first
           | (refine zac rfl 24 17 rfl rfl (HS.nil wr) _ z24 32 (u8v fun _ => 0) n24 f24 ?_; intro bq v1 hbq hcq hs; have HQ1 := Hd hs; clear hs)
           | (refine zab rfl 149 rfl (.slice s.aE s.nE s.cE) ?_ ?_; (· exact zan rfl rfl Ty35 (HSr.out.cell 719 (by omega)) HC.out.f9))
           | (refine zab rfl 156 rfl (.slice s.aE s.nE s.cE) ?_ ?_; (· exact zan rfl rfl Ty35 ((HSr.out.below (HQ1.out.out (by simp; omega))).cell 719 (by omega)) HC.out.f9))
           | (refine zab rfl 158 rfl (.pointer (some (ad.add (k * 65)))) ?_ ?_; (· exact zbb rfl rfl rfl (fun w => by rw [HA.out]; exact zaw (z := 65) w Ty35 (by kernel_rfl) ad h1) _))
           | (refine zae rfl 34 (.tmp 158) rfl 65 _ Ty34 rfl (by kernel_rfl) _ rfl (fun q => s.Vot (k * 65 + q)) (fun q hq => by rw [zb1]; exact ((HC.out.below (HSr.out.below (HQ1.out.out (by simp; omega))).bel).rE.cell_' HA.out (show k * 65 + q < s.nE * 65 by omega))) ?_)
           | (refine zaf rfl 24 (.tmp 17) (.tmp 161) rfl HQ2.out 0 rfl (u8v (eth1N (fun q => s.Vot (k * 65 + q)))) rfl rfl (by kernel_rfl) (fun _ _ => rfl) ?_; intro v4 hs; have HQ4 := Hd hs; clear hs)
           | (refine zae rfl 24 (.tmp 17) rfl 32 _ Ty24 rfl s24 ⟨bq, 0, none⟩ rfl (u8v (eth1N (fun q => s.Vot (k * 65 + q)))) (fun q hq => by rw [zai]; exact (HQ4.out.row 0 rfl).cell hq) ?_)
           | (refine zbu rfl Ty32 s24 (by omega) (by omega) z24 _ rfl (u8v (eth1N (fun q => s.Vot (k * 65 + q)))) rfl HQ4.out ?_; intro bn v5 hbn hcn hs; have HQ5 := Hd hs; clear hs))
          | (have tx := tk27; clear tx; go_at_call 72; refine (znd (fun q => s.Vot (k * 65 + q)) (HC.out.scE k h1) _ (HP.out.below (HSr.out.below (HQ1.out.out (by simp; omega))).bel)).mono ?_; rintro e v2 ⟨rfl, hb⟩; have HQ2 := Hd (HQ1.out.below hb); clear hb; clear tk27; have tk28 := Tok.mk 28)
          | (at_builtin; refine zba _ (.tmp 167) (.tmp 169) 32 wS9.heap.size i24 Ty32 (by rfl) (by omega) rfl rfl (k + 1) (u8v (votX s.Vot)) rfl rfl (HO.out.all (HQ5.out.out (by simp; omega))) (Rd.of_row (n := 1 * 32) (HQ5.out.row 0 rfl) lR (HQ5.out.lt 0 rfl)) (fun _ _ => rfl) rfl (RefRoot.zf7 (RefRoot.zw5 s.Vot k)) ⟨by omega, by omega⟩ (lT hsz HQ5.out.size) ?_; intro A' c' v6 ho9 hg9 ha9; have HO9 := Hd ho9; have HG9 := Hd hg9; clear ho9 hg9 ha9))
         go_roundw
         case rel => exact ⟨k + 1, A', c', rfl, by go_num, by omega, HO9.out, za4 (HB.out.trans ((HQ5.out.out (by simp; omega)).mono hsz)) HG9.out (lT hsz HQ5.out.size) (fun ad e => (HO.out.base_le ad e).1)⟩
         case measure => simp [intOf]; omega
        ·obtain rfl : s.nE = k := by omega
         obtain ⟨wo9, hwo⟩ : ∃ wo : World, wo = wr := ⟨_, rfl⟩
         subst hwo
         have HM25 := HSr
         clear HM24 HSr HB
         have tk29 := Tok.mk 29
         go_wp2_with (first
          | ((with_reducible refine at_l ?_); first
           | (refine zab rfl 149 rfl (.slice s.aE s.nE s.cE) ?_ ?_; (· exact zan rfl rfl Ty35 (HM25.out.cell 719 (by omega)) HC.out.f9))
           | (refine zdl rfl (.tmp 173) (.tmp 172) rfl HM26.out (by omega) (treeN (dep 8) s.nE (votX s.Vot)) rfl rfl (by kernel_rfl) ?_; intro wT9 hm; have HT := Hd hm; have HM27 := Hd hm.rs; clear hm HM26)
           | (refine zag rfl 24 (.tmp 174) rfl b5 (9 * 32) 32 (u8v (treeN (dep 8) s.nE (votX s.Vot))) rfl _ HT.out.at_ Ty24 rfl s24 _ rfl ?_; clear HT)
           | (refine zab rfl 177 rfl (.slice s.aE s.nE s.cE) ?_ ?_; (· exact zan rfl rfl Ty35 (HM27.out.cell 719 (by omega)) HC.out.f9))
           | (refine zab rfl 179 rfl (.int .u64 (s.nE : Int)) ?_ ?_; (· exact zdc rfl rfl (fun w => TreeRef.cvu s.nE (by omega) w) _))
           | (refine za8 rfl (.tmp 181) (.tmp 180) rfl HM28.out (by omega) (lmixN (treeN (dep 8) s.nE (votX s.Vot)) s.nE) (fun _ _ => rfl) rfl rfl (by kernel_rfl) ?_; intro wS10 hm; have HM29 := Hd hm; clear hm HM28)
           | (refine zab rfl 183 rfl (.int .u64 ((nat (s.F 720) : Nat) : Int)) ?_ ?_; (· exact zbf .u64 rfl rfl Ty22 ((HM29.out.cell 720 (by omega)).trans (congrArg some (HC.out.sc.u64 720 (by kernel_rfl)).1))))
           | (refine za8 rfl (.tmp 186) (.tmp 185) rfl HM31.out (by omega) (numN s.F 720) (fun _ _ => rfl) rfl rfl (by kernel_rfl) ?_; intro wS11 hm; have HM32 := Hd hm; clear hm HM31)
           | (refine zab rfl 188 rfl (.slice s.aV s.nV s.cV) ?_ ?_; (· exact zan rfl rfl Ty36 (HM32.out.cell 721 (by omega)) HC.out.f11))
           | (refine zab rfl 194 rfl (.slice s.aV s.nV s.cV) ?_ ?_; (· exact zan rfl rfl Ty36 (HM32.out.cell 721 (by omega)) HC.out.f11)))
          | (have tx := tk29; clear tx; go_at_call 70; refine (zbt s.nE c9 8 A9 (votX s.Vot) _ HO.out.rd (zf0 s.Vot) HO.out.cap (by omega) (by omega) (HP.out.below HM25.out.bel)).mono ?_; rintro e w' ⟨rfl, hb⟩; have HM26 := Hd (HM25.out.below hb); clear HM25; clear hb HO; clear tk29; have tk30 := Tok.mk 30)
          | (have tx := tk30; clear tx; go_at_call 71; refine (ze4 (treeN (dep 8) s.nE (votX s.Vot)) (za9 (zf0 s.Vot) _ _) s.nE _ (HP.out.below HM27.out.bel)).mono ?_; rintro e w' ⟨rfl, hb⟩; have HM28 := Hd (HM27.out.below hb); clear HM27; clear hb; clear tk30; have tk31 := Tok.mk 31)
          | (have tx := tk31; clear tx; go_at_call 67; refine (zes (nat (s.F 720)) _).mono ?_; rintro e w' ⟨A', c', rfl, hc, hr, hb⟩; have HN := Hd hr; have HM30 := Hd (HM29.out.below hb); clear HM29; clear hc hr hb; clear tk31; have tk32 := Tok.mk 32)
          | (have tx := tk32; clear tx; go_at_call 66; refine (zfa 8 c' A' (leB (nat (s.F 720))) _ HN.out (zbq _) rfl (HP.out.below HM30.out.bel)).mono ?_; rintro e w' ⟨rfl, hb⟩; rw [show padN 8 (leB (nat (s.F 720))) = numN s.F 720 from rfl]; have HM31 := Hd (HM30.out.below hb); clear HM30; clear hb HN; clear tk32; have tk33 := Tok.mk 33))
         go_loopw [18, 19] (fun u i wr => ∃ (k : Nat) (A : Option Addr) (c : Nat), u = .slice A (k) c ∧ i = .int .i64 (k : Int) ∧ k ≤ s.nV ∧ OwnZ wr wS11.heap.size 24 32 A (k) c (u8v (valX s.V)) ∧ Below wS11.heap.size wS11 wr) (fun _ i _ => s.nV - (intOf i).toNat)
         case atStart => exact ⟨0, none, 0, rfl, rfl, Nat.zero_le _, OwnZ.nil _ _ _ _ _, Below.refl _ _⟩
         case round =>
          obtain ⟨k, A11, c11, rfl, rfl, hk, ho, hb⟩ := hrel
          have HO := Hd ho
          have HB := Hd hb
          have hsz := hb.size
          have HSr := Hd (HM32.out.below hb)
          clear ho hb
          by_cases h1 : k < s.nV
          ·skip
           obtain ⟨ad, hA⟩ : ∃ ad, s.aV = some ad := by
            obtain ⟨ad, e, _⟩ := HC.out.rV (show 0 < s.nV * 86 by omega); exact ⟨ad, e⟩
           have HA := Hd hA
           clear hA
           have tk34 := Tok.mk 34
           go_wp2_with (first
            | ((with_reducible refine at_l ?_); first
             | (refine zac rfl 24 20 rfl rfl (HS.nil wr) _ z24 32 (u8v fun _ => 0) n24 f24 ?_; intro bq v1 hbq hcq hs; have HQ1 := Hd hs; clear hs)
             | (refine zab rfl 194 rfl (.slice s.aV s.nV s.cV) ?_ ?_; (· exact zan rfl rfl Ty36 (HSr.out.cell 721 (by omega)) HC.out.f11))
             | (refine zab rfl 201 rfl (.slice s.aV s.nV s.cV) ?_ ?_; (· exact zan rfl rfl Ty36 ((HSr.out.below (HQ1.out.out (by simp; omega))).cell 721 (by omega)) HC.out.f11))
             | (refine zab rfl 203 rfl (.pointer (some (ad.add (k * 86)))) ?_ ?_; (· exact zbb rfl rfl rfl (fun w => by rw [HA.out]; exact zaw (z := 86) w Ty36 (by kernel_rfl) ad h1) _))
             | (refine zae rfl 66 (.tmp 203) rfl 86 _ Ty66 rfl (by kernel_rfl) _ rfl (fun q => s.V (k * 86 + q)) (fun q hq => by rw [zb1]; exact ((HC.out.below (HSr.out.below (HQ1.out.out (by simp; omega))).bel).rV.cell_' HA.out (show k * 86 + q < s.nV * 86 by omega))) ?_)
             | (refine zaf rfl 24 (.tmp 20) (.tmp 206) rfl HQ2.out 0 rfl (u8v (validN (fun q => s.V (k * 86 + q)))) rfl rfl (by kernel_rfl) (fun _ _ => rfl) ?_; intro v4 hs; have HQ4 := Hd hs; clear hs)
             | (refine zae rfl 24 (.tmp 20) rfl 32 _ Ty24 rfl s24 ⟨bq, 0, none⟩ rfl (u8v (validN (fun q => s.V (k * 86 + q)))) (fun q hq => by rw [zai]; exact (HQ4.out.row 0 rfl).cell hq) ?_)
             | (refine zbu rfl Ty32 s24 (by omega) (by omega) z24 _ rfl (u8v (validN (fun q => s.V (k * 86 + q)))) rfl HQ4.out ?_; intro bn v5 hbn hcn hs; have HQ5 := Hd hs; clear hs))
            | (have tx := tk34; clear tx; go_at_call 73; refine (zrk (fun q => s.V (k * 86 + q)) (HC.out.scV k h1) _ (HP.out.below (HSr.out.below (HQ1.out.out (by simp; omega))).bel)).mono ?_; rintro e v2 ⟨rfl, hb⟩; have HQ2 := Hd (HQ1.out.below hb); clear hb; clear tk34; have tk35 := Tok.mk 35)
            | (at_builtin; refine zba _ (.tmp 212) (.tmp 214) 32 wS11.heap.size i24 Ty32 (by rfl) (by omega) rfl rfl (k + 1) (u8v (valX s.V)) rfl rfl (HO.out.all (HQ5.out.out (by simp; omega))) (Rd.of_row (n := 1 * 32) (HQ5.out.row 0 rfl) lR (HQ5.out.lt 0 rfl)) (fun _ _ => rfl) rfl (RefRoot.zf7 (RefRoot.zw6 s.V k)) ⟨by omega, by omega⟩ (lT hsz HQ5.out.size) ?_; intro A' c' v6 ho9 hg9 ha9; have HO9 := Hd ho9; have HG9 := Hd hg9; clear ho9 hg9 ha9))
           go_roundw
           case rel => exact ⟨k + 1, A', c', rfl, by go_num, by omega, HO9.out, za4 (HB.out.trans ((HQ5.out.out (by simp; omega)).mono hsz)) HG9.out (lT hsz HQ5.out.size) (fun ad e => (HO.out.base_le ad e).1)⟩
           case measure => simp [intOf]; omega
          ·obtain rfl : s.nV = k := by omega
           obtain ⟨wo11, hwo⟩ : ∃ wo : World, wo = wr := ⟨_, rfl⟩
           subst hwo
           have HM33 := HSr
           clear HM32 HSr HB
           have tk36 := Tok.mk 36
           go_wp2_with (first
            | ((with_reducible refine at_l ?_); first
             | (refine zab rfl 194 rfl (.slice s.aV s.nV s.cV) ?_ ?_; (· exact zan rfl rfl Ty36 (HM33.out.cell 721 (by omega)) HC.out.f11))
             | (refine zdl rfl (.tmp 218) (.tmp 217) rfl HM34.out (by omega) (treeN (dep 65536) s.nV (valX s.V)) rfl rfl (by kernel_rfl) ?_; intro wT11 hm; have HT := Hd hm; have HM35 := Hd hm.rs; clear hm HM34)
             | (refine zag rfl 24 (.tmp 219) rfl b5 (11 * 32) 32 (u8v (treeN (dep 65536) s.nV (valX s.V))) rfl _ HT.out.at_ Ty24 rfl s24 _ rfl ?_; clear HT)
             | (refine zab rfl 222 rfl (.slice s.aV s.nV s.cV) ?_ ?_; (· exact zan rfl rfl Ty36 (HM35.out.cell 721 (by omega)) HC.out.f11))
             | (refine zab rfl 224 rfl (.int .u64 (s.nV : Int)) ?_ ?_; (· exact zdc rfl rfl (fun w => TreeRef.cvu s.nV (by omega) w) _))
             | (refine za8 rfl (.tmp 226) (.tmp 225) rfl HM36.out (by omega) (lmixN (treeN (dep 65536) s.nV (valX s.V)) s.nV) (fun q _ => by show _ = lmixN (treeN (dep 65536) (lvC 0 s.nV) (valX s.V)) s.nV q; rw [RefRoot.lvC0]) rfl rfl (by kernel_rfl) ?_; intro wS12 hm; have HM37 := Hd hm; clear hm HM36)
             | (refine zab rfl 228 rfl (.slice s.aB s.nB s.cB) ?_ ?_; (· exact zan rfl rfl Ty37 (HM37.out.cell 722 (by omega)) HC.out.f12))
             | (refine zab rfl 234 rfl (.slice s.aB s.nB s.cB) ?_ ?_; (· exact zan rfl rfl Ty37 (HM37.out.cell 722 (by omega)) HC.out.f12)))
            | (have tx := tk36; clear tx; go_at_call 70; refine (zbt s.nV c11 65536 A11 (valX s.V) _ HO.out.rd (zgr s.V) HO.out.cap (by omega) (by omega) (HP.out.below HM33.out.bel)).mono ?_; rintro e w' ⟨rfl, hb⟩; have HM34 := Hd (HM33.out.below hb); clear HM33; clear hb HO; clear tk36; have tk37 := Tok.mk 37)
            | (have tx := tk37; clear tx; go_at_call 71; refine (ze4 (treeN (dep 65536) s.nV (valX s.V)) (za9 (zgr s.V) _ _) s.nV _ (HP.out.below HM35.out.bel)).mono ?_; rintro e w' ⟨rfl, hb⟩; have HM36 := Hd (HM35.out.below hb); clear HM35; clear hb; clear tk37; have tk38 := Tok.mk 38))
           go_loopw [21, 22] (fun u i wr => ∃ (k : Nat) (A : Option Addr) (c : Nat), u = .slice A (8 * k) c ∧ i = .int .i64 (k : Int) ∧ k ≤ s.nB ∧ OwnZ wr wS12.heap.size 5 1 A (8 * k) c (u8v (LiveSmall.leS (fun i => nat (s.Bal i)))) ∧ Below wS12.heap.size wS12 wr) (fun _ i _ => s.nB - (intOf i).toNat)
           case atStart => exact ⟨0, none, 0, rfl, rfl, Nat.zero_le _, OwnZ.nil _ _ _ _ _, Below.refl _ _⟩
           case round =>
            obtain ⟨k, A12, c12, rfl, rfl, hk, ho, hb⟩ := hrel
            have HO := Hd ho
            have HB := Hd hb
            have hsz := hb.size
            have HSr := Hd (HM37.out.below hb)
            clear ho hb
            by_cases h1 : k < s.nB
            ·skip
             obtain ⟨ad, hA⟩ : ∃ ad, s.aB = some ad := by
              obtain ⟨ad, e, _⟩ := HC.out.rB (show 0 < s.nB by omega); exact ⟨ad, e⟩
             have HA := Hd hA
             clear hA
             have tk39 := Tok.mk 39
             go_wp2_with (first
              | ((with_reducible refine at_l ?_); first
               | (refine zab rfl 234 rfl (.slice s.aB s.nB s.cB) ?_ ?_; (· exact zan rfl rfl Ty37 (HSr.out.cell 722 (by omega)) HC.out.f12))
               | (refine zab rfl 241 rfl (.slice s.aB s.nB s.cB) ?_ ?_; (· exact zan rfl rfl Ty37 (HSr.out.cell 722 (by omega)) HC.out.f12))
               | (refine zab rfl 243 rfl (.pointer (some (ad.add (k * 1)))) ?_ ?_; (· exact zbb rfl rfl rfl (fun w => by rw [HA.out]; exact zaw (z := 1) w Ty37 (by kernel_rfl) ad h1) _))
               | (refine zab rfl 244 rfl (.int .u64 ((nat (s.Bal k) : Nat) : Int)) ?_ ?_; (· exact zbf .u64 rfl rfl Ty22 (by rw [Nat.mul_one]; exact ((HC.out.below HSr.out.bel).rB.cell_' HA.out h1).trans (congrArg some (HC.out.scB k h1).1)))))
              | (have tx := tk39; clear tx; go_at_call 67; refine (zes (nat (s.Bal k)) _).mono ?_; rintro e v1 ⟨A1, c1, rfl, hc, hr, hb⟩; have HN := Hd hr; have HV1 := Hd hb; clear hc hr hb; clear tk39; have tk40 := Tok.mk 40)
              | (at_builtin; refine zba _ (.tmp 239) (.tmp 245) 39 wS12.heap.size (e := 5) (z := .int .u8 0) (k := 1) (bytes := 1) (by kernel_rfl) Ty39 (by rfl) (by omega) rfl rfl (8 * (k + 1)) (u8v (LiveSmall.leS (fun i => nat (s.Bal i)))) rfl rfl (HO.out.all HV1.out) (show Rd v1 v1.heap.size A1 (8 * 1) (u8v (leB (nat (s.Bal k)))) from HN.out) (fun _ _ => rfl) (by omega) (RefRoot.zne (fun i => nat (s.Bal i)) k) ⟨by omega, by omega⟩ (lT hsz HV1.out.size) ?_; intro A' c' v6 ho9 hg9 ha9; have HO9 := Hd ho9; have HG9 := Hd hg9; clear ho9 hg9 ha9))
             go_roundw
             case rel => exact ⟨k + 1, A', c', rfl, by go_num, by omega, HO9.out, za4 (HB.out.trans (HV1.out.mono hsz)) HG9.out (lT hsz HV1.out.size) (fun ad e => (HO.out.base_le ad e).1)⟩
             case measure => simp [intOf]; omega
            ·obtain rfl : s.nB = k := by omega
             obtain ⟨wo12, hwo⟩ : ∃ wo : World, wo = wr := ⟨_, rfl⟩
             subst hwo
             have HM38 := HSr
             clear HM37 HSr HB
             have tk41 := Tok.mk 41
             go_wp2_with (first
              | ((with_reducible refine at_l ?_); first
               | (refine zab rfl 234 rfl (.slice s.aB s.nB s.cB) ?_ ?_; (· exact zan rfl rfl Ty37 (HM38.out.cell 722 (by omega)) HC.out.f12))
               | (refine zdl rfl (.tmp 250) (.tmp 249) rfl HM40.out (by omega) (treeN (dep 16384) (nch (8 * s.nB)) (padN (8 * s.nB) (LiveSmall.leS fun i => nat (s.Bal i)))) rfl rfl (by kernel_rfl) ?_; intro wT12 hm; have HT := Hd hm; have HM41 := Hd hm.rs; clear hm HM40)
               | (refine zag rfl 24 (.tmp 251) rfl b5 (12 * 32) 32 (u8v (treeN (dep 16384) (nch (8 * s.nB)) (padN (8 * s.nB) (LiveSmall.leS fun i => nat (s.Bal i))))) rfl _ HT.out.at_ Ty24 rfl s24 _ rfl ?_; clear HT)
               | (refine zab rfl 254 rfl (.slice s.aB s.nB s.cB) ?_ ?_; (· exact zan rfl rfl Ty37 (HM41.out.cell 722 (by omega)) HC.out.f12))
               | (refine zab rfl 256 rfl (.int .u64 (s.nB : Int)) ?_ ?_; (· exact zdc rfl rfl (fun w => TreeRef.cvu s.nB (by omega) w) _))
               | (refine za8 rfl (.tmp 258) (.tmp 257) rfl HM42.out (by omega) (lmixN (treeN (dep 16384) (nch (8 * s.nB)) (padN (8 * s.nB) (LiveSmall.leS fun i => nat (s.Bal i)))) s.nB) (fun q _ => by show _ = lmixN (treeN (dep 16384) (lvC 1 s.nV) (padN (8 * s.nB) (LiveSmall.leS fun i => nat (s.Bal i)))) s.nV q; rw [RefRoot.zw8, HR.out.nB]) rfl rfl (by kernel_rfl) ?_; intro wS13 hm; have HM43 := Hd hm; clear hm HM42))
              | (have tx := tk41; clear tx; go_at_call 74; refine (zdh (8 * s.nB) c12 A12 (LiveSmall.leS fun i => nat (s.Bal i)) _ (ze5 HO.out.rd) (by omega)).mono ?_; rintro e w' ⟨A', c', rfl, ho, hb⟩; have HK := Hd ho; have HM39 := Hd (HM38.out.below hb); clear HM38; clear ho hb HO; clear tk41; have tk42 := Tok.mk 42)
              | (have tx := tk42; clear tx; go_at_call 70; refine (zbt (nch (8 * s.nB)) c' 16384 A' (padN (8 * s.nB) (LiveSmall.leS fun i => nat (s.Bal i))) _ HK.out.rd (za6 (fun _ => zbq _ _)) HK.out.cap (by omega) (by unfold nch; omega) (HP.out.below HM39.out.bel)).mono ?_; rintro e w' ⟨rfl, hb⟩; have HM40 := Hd (HM39.out.below hb); clear HM39; clear hb HK; clear tk42; have tk43 := Tok.mk 43)
              | (have tx := tk43; clear tx; go_at_call 71; refine (ze4 (treeN (dep 16384) (nch (8 * s.nB)) (padN (8 * s.nB) (LiveSmall.leS fun i => nat (s.Bal i)))) (za9 (za6 (fun _ => zbq _ _)) _ _) s.nB _ (HP.out.below HM41.out.bel)).mono ?_; rintro e w' ⟨rfl, hb⟩; have HM42 := Hd (HM41.out.below hb); clear HM41; clear hb; clear tk43; have tk44 := Tok.mk 44))
             go_loopw [23, 24] (fun u i wr => ∃ (k : Nat) (A : Option Addr) (c : Nat), u = .slice A (k) c ∧ i = .int .i64 (k : Int) ∧ k ≤ 8 ∧ OwnZ wr wS13.heap.size 24 32 A (k) c (u8v (byF s.F 723)) ∧ Below wS13.heap.size wS13 wr) (fun _ i _ => 8 - (intOf i).toNat)
             case atStart => exact ⟨0, none, 0, rfl, rfl, Nat.zero_le _, OwnZ.nil _ _ _ _ _, Below.refl _ _⟩
             case round =>
              obtain ⟨k, A13, c13, rfl, rfl, hk, ho, hb⟩ := hrel
              have HO := Hd ho
              have HB := Hd hb
              have hsz := hb.size
              have HSr := Hd (HM43.out.below hb)
              clear ho hb
              by_cases hk8 : k < 8
              ·skip
               have tk45 := Tok.mk 45
               go_wp2_with (first
                | ((with_reducible refine at_l ?_); first
                 | (refine zac rfl 24 25 rfl rfl (HS.nil wr) _ z24 32 (u8v fun _ => 0) n24 f24 ?_; intro bq v1 hbq hcq hs; have HQ1 := Hd hs; clear hs)
                 | (refine zab rfl 265 rfl (.pointer (some ⟨b1, 723 + k * 32, none⟩)) ?_ ?_; (· exact zbb rfl rfl rfl (fun w => RefRoot.idxR8 w b1 723 k hk8) _))
                 | (refine zag rfl 24 (.tmp 265) rfl b1 (723 + k * 32) 32 (u8v (fun q => byF s.F 723 (k * 32 + q))) rfl _ (fun q hq => by rw [Nat.add_assoc]; exact ((HSr.out.below (HQ1.out.out (by simp; omega))).cell (723 + (k * 32 + q)) (by omega)).trans (congrArg some (RefRoot.zlu HC.out.sc 723 256 (by kernel_rfl) (k * 32 + q) (by omega)))) Ty24 rfl s24 _ rfl ?_)
                 | (refine zaf rfl 24 (.tmp 25) (.tmp 266) rfl HQ1.out 0 rfl (u8v (fun q => byF s.F 723 (k * 32 + q))) rfl rfl (by kernel_rfl) (fun _ _ => rfl) ?_; intro v4 hs; have HQ4 := Hd hs; clear hs)
                 | (refine zae rfl 24 (.tmp 25) rfl 32 _ Ty24 rfl s24 ⟨bq, 0, none⟩ rfl (u8v (fun q => byF s.F 723 (k * 32 + q))) (fun q hq => by rw [zai]; exact (HQ4.out.row 0 rfl).cell hq) ?_)
                 | (refine zbu rfl Ty32 s24 (by omega) (by omega) z24 _ rfl (u8v (fun q => byF s.F 723 (k * 32 + q))) rfl HQ4.out ?_; intro bn v5 hbn hcn hs; have HQ5 := Hd hs; clear hs))
                | (at_builtin; refine zba _ (.tmp 267) (.tmp 269) 32 wS13.heap.size i24 Ty32 (by rfl) (by omega) rfl rfl (k + 1) (u8v (byF s.F 723)) rfl rfl (HO.out.all (HQ5.out.out (by simp; omega))) (Rd.of_row (n := 1 * 32) (HQ5.out.row 0 rfl) lR (HQ5.out.lt 0 rfl)) (fun _ _ => rfl) rfl (RefRoot.zf7 (fun _ _ => rfl)) ⟨by omega, by omega⟩ (lT hsz HQ5.out.size) ?_; intro A' c' v6 ho9 hg9 ha9; have HO9 := Hd ho9; have HG9 := Hd hg9; clear ho9 hg9 ha9))
               go_roundw
               case rel => exact ⟨k + 1, A', c', rfl, by go_num, by omega, HO9.out, za4 (HB.out.trans ((HQ5.out.out (by simp; omega)).mono hsz)) HG9.out (lT hsz HQ5.out.size) (fun ad e => (HO.out.base_le ad e).1)⟩
               case measure => simp [intOf]; omega
              ·obtain rfl : k = 8 := by omega
               obtain ⟨wo13, hwo⟩ : ∃ wo : World, wo = wr := ⟨_, rfl⟩
               subst hwo
               have HM44 := HSr
               clear HM43 HSr HB
               have tk46 := Tok.mk 46
               go_wp2_with (first
                | (have tx := tk46; clear tx; go_at_call 70; refine (zbt 8 c13 8 A13 (byF s.F 723) _ HO.out.rd (zbm s.F 723) HO.out.cap (by omega) (by omega) (HP.out.below HM44.out.bel)).mono ?_; rintro e w' ⟨rfl, hb⟩; have HM45 := Hd (HM44.out.below hb); clear HM44; clear hb HO; clear tk46; have tk47 := Tok.mk 47)
                | ((with_reducible refine at_l ?_); refine za8 rfl (.tmp 273) (.tmp 272) rfl HM45.out (by omega) (treeN (dep 8) 8 (byF s.F 723)) (fun _ _ => rfl) rfl rfl (by kernel_rfl) ?_; intro wS14 hm; have HM46 := Hd hm; clear hm HM45))
               go_loopw [26, 27] (fun u i wr => ∃ (k : Nat) (A : Option Addr) (c : Nat), u = .slice A (8 * k) c ∧ i = .int .i64 (k : Int) ∧ k ≤ 8 ∧ OwnZ wr wS14.heap.size 5 1 A (8 * k) c (u8v (LiveSmall.leS (fun i => nat (at_ s.F 979 i)))) ∧ Below wS14.heap.size wS14 wr) (fun _ i _ => 8 - (intOf i).toNat)
               case atStart => exact ⟨0, none, 0, rfl, rfl, Nat.zero_le _, OwnZ.nil _ _ _ _ _, Below.refl _ _⟩
               case round =>
                obtain ⟨k, A14, c14, rfl, rfl, hk, ho, hb⟩ := hrel
                have HO := Hd ho
                have HB := Hd hb
                have hsz := hb.size
                have HSr := Hd (HM46.out.below hb)
                clear ho hb
                by_cases h1 : k < 8
                ·skip
                 have tk48 := Tok.mk 48
                 go_wp2_with (first
                  | ((with_reducible refine at_l ?_); first
                   | (refine zab rfl 281 rfl (.pointer (some ⟨b1, 979 + k, none⟩)) ?_ ?_; (· exact zbb rfl rfl rfl (fun w => RefRoot.idxU8 w b1 979 k h1) _))
                   | (refine zab rfl 282 rfl (.int .u64 ((nat (at_ s.F 979 k) : Nat) : Int)) ?_ ?_; (· exact zbf .u64 rfl rfl Ty22 ((HSr.out.cell (979 + k) (by omega)).trans (congrArg some (HSl.out k h1))))))
                  | (have tx := tk48; clear tx; go_at_call 67; refine (zes (nat (at_ s.F 979 k)) _).mono ?_; rintro e v1 ⟨A1, c1, rfl, hc, hr, hb⟩; have HN := Hd hr; have HV1 := Hd hb; clear hc hr hb; clear tk48; have tk49 := Tok.mk 49)
                  | (at_builtin; refine zba _ (.tmp 278) (.tmp 283) 39 wS14.heap.size (e := 5) (z := .int .u8 0) (k := 1) (bytes := 1) (by kernel_rfl) Ty39 (by rfl) (by omega) rfl rfl (8 * (k + 1)) (u8v (LiveSmall.leS (fun i => nat (at_ s.F 979 i)))) rfl rfl (HO.out.all HV1.out) (show Rd v1 v1.heap.size A1 (8 * 1) (u8v (leB (nat (at_ s.F 979 k)))) from HN.out) (fun _ _ => rfl) (by omega) (RefRoot.zne (fun i => nat (at_ s.F 979 i)) k) ⟨by omega, by omega⟩ (lT hsz HV1.out.size) ?_; intro A' c' v6 ho9 hg9 ha9; have HO9 := Hd ho9; have HG9 := Hd hg9; clear ho9 hg9 ha9))
                 go_roundw
                 case rel => exact ⟨k + 1, A', c', rfl, by go_num, by omega, HO9.out, za4 (HB.out.trans (HV1.out.mono hsz)) HG9.out (lT hsz HV1.out.size) (fun ad e => (HO.out.base_le ad e).1)⟩
                 case measure => simp [intOf]; omega
                ·obtain rfl : k = 8 := by omega
                 obtain ⟨wo14, hwo⟩ : ∃ wo : World, wo = wr := ⟨_, rfl⟩
                 subst hwo
                 have HM47 := HSr
                 clear HM46 HSr HB
                 have tk50 := Tok.mk 50
                 go_wp2_with (first
                  | (have tx := tk50; clear tx; go_at_call 74; refine (zdh (8 * 8) c14 A14 (LiveSmall.leS fun i => nat (at_ s.F 979 i)) _ (ze5 HO.out.rd) (by omega)).mono ?_; rintro e w' ⟨A', c', rfl, ho, hb⟩; have HK := Hd ho; have HM48 := Hd (HM47.out.below hb); clear HM47; clear ho hb HO; clear tk50; have tk51 := Tok.mk 51)
                  | (have tx := tk51; clear tx; go_at_call 70; refine (zbt (nch (8 * 8)) c' 2 A' (padN (8 * 8) (LiveSmall.leS fun i => nat (at_ s.F 979 i))) _ HK.out.rd (za6 (fun _ => zbq _ _)) HK.out.cap (by omega) (by unfold nch; omega) (HP.out.below HM48.out.bel)).mono ?_; rintro e w' ⟨rfl, hb⟩; have HM49 := Hd (HM48.out.below hb); clear HM48; clear hb HK; clear tk51; have tk52 := Tok.mk 52)
                  | ((with_reducible refine at_l ?_); first
                   | (refine za8 rfl (.tmp 288) (.tmp 287) rfl HM49.out (by omega) (treeN (dep 2) (nch (8 * 8)) (padN (8 * 8) (LiveSmall.leS fun i => nat (at_ s.F 979 i)))) (fun _ _ => rfl) rfl rfl (by kernel_rfl) ?_; intro wS15 hm; have HM50 := Hd hm; clear hm HM49)
                   | (refine zab rfl 290 rfl (.slice s.aP s.nP s.cP) ?_ ?_; (· exact zan rfl rfl Ty39 (HM50.out.cell 987 (by omega)) HC.out.f15))
                   | (refine zab rfl 296 rfl (.slice s.aP s.nP s.cP) ?_ ?_; (· exact zan rfl rfl Ty39 (HM50.out.cell 987 (by omega)) HC.out.f15))))
                 go_loopw [28, 29] (fun u i wr => ∃ (k : Nat) (A : Option Addr) (c : Nat), u = .slice A (k) c ∧ i = .int .i64 (k : Int) ∧ k ≤ s.nP ∧ OwnZ wr wS15.heap.size 5 1 A (k) c (u8v (b8 s.Prv)) ∧ Below wS15.heap.size wS15 wr) (fun _ i _ => s.nP - (intOf i).toNat)
                 case atStart => exact ⟨0, none, 0, rfl, rfl, Nat.zero_le _, OwnZ.nil _ _ _ _ _, Below.refl _ _⟩
                 case round =>
                  obtain ⟨k, A15, c15, rfl, rfl, hk, ho, hb⟩ := hrel
                  have HO := Hd ho
                  have HB := Hd hb
                  have hsz := hb.size
                  have HSr := Hd (HM50.out.below hb)
                  clear ho hb
                  by_cases h1 : k < s.nP
                  ·skip
                   obtain ⟨ad, hA⟩ : ∃ ad, s.aP = some ad := by
                    obtain ⟨ad, e, _⟩ := HC.out.rP (show 0 < s.nP by omega); exact ⟨ad, e⟩
                   have HA := Hd hA
                   clear hA
                   have tk53 := Tok.mk 53
                   go_wp2_with (first
                    | ((with_reducible refine at_l ?_); first
                     | (refine zab rfl 296 rfl (.slice s.aP s.nP s.cP) ?_ ?_; (· exact zan rfl rfl Ty39 (HSr.out.cell 987 (by omega)) HC.out.f15))
                     | (refine zab rfl 303 rfl (.slice s.aP s.nP s.cP) ?_ ?_; (· exact zan rfl rfl Ty39 (HSr.out.cell 987 (by omega)) HC.out.f15))
                     | (refine zab rfl 305 rfl (.pointer (some (ad.add (k * 1)))) ?_ ?_; (· exact zbb rfl rfl rfl (fun w => by rw [HA.out]; exact zaw (z := 1) w Ty39 (by kernel_rfl) ad h1) _))
                     | (refine zab rfl 306 rfl (.int .u8 ((nat (s.Prv k) : Nat) : Int)) ?_ ?_; (· exact zbf .u8 rfl rfl Ty5 (by rw [Nat.mul_one]; exact ((HC.out.below HSr.out.bel).rP.cell_' HA.out h1).trans (congrArg some (HC.out.scP k h1).1))))
                     | (refine zcj rfl (e := 5) (.tmp 306) (.int .u8 ((nat (s.Prv k) : Nat) : Int)) rfl rfl (RefSmall.ziq _) (HS.nil wr) ?_; intro bn v1 hbn hcn hbl hs; have HQ5 := Hd hs; clear hs hbl))
                    | (at_builtin; refine zba _ (.tmp 301) (.tmp 307) 39 wS15.heap.size (e := 5) (z := .int .u8 0) (k := 1) (bytes := 1) (by kernel_rfl) Ty39 (by rfl) (by omega) rfl rfl (k + 1) (u8v (b8 s.Prv)) rfl rfl (HO.out.all (HQ5.out.out (by simp; omega))) (Rd.of_row (n := 1 * 1) (HQ5.out.row 0 rfl) lR (HQ5.out.lt 0 rfl)) (fun _ _ => rfl) rfl (RefRoot.zrl s.Prv k (HC.out.scP k h1)) ⟨by omega, by omega⟩ (lT hsz HQ5.out.size) ?_; intro A' c' v6 ho9 hg9 ha9; have HO9 := Hd ho9; have HG9 := Hd hg9; clear ho9 hg9 ha9))
                   go_roundw
                   case rel => exact ⟨k + 1, A', c', rfl, by go_num, by omega, HO9.out, za4 (HB.out.trans ((HQ5.out.out (by simp; omega)).mono hsz)) HG9.out (lT hsz HQ5.out.size) (fun ad e => (HO.out.base_le ad e).1)⟩
                   case measure => simp [intOf]; omega
                  ·obtain rfl : s.nP = k := by omega
                   obtain ⟨wo15, hwo⟩ : ∃ wo : World, wo = wr := ⟨_, rfl⟩
                   subst hwo
                   have HM51 := HSr
                   clear HM50 HSr HB
                   have tk54 := Tok.mk 54
                   go_wp2_with (first
                    | ((with_reducible refine at_l ?_); first
                     | (refine zab rfl 296 rfl (.slice s.aP s.nP s.cP) ?_ ?_; (· exact zan rfl rfl Ty39 (HM51.out.cell 987 (by omega)) HC.out.f15))
                     | (refine zdl rfl (.tmp 312) (.tmp 311) rfl HM53.out (by omega) (treeN (dep 2048) (nch (s.nP)) (padN (s.nP) (b8 s.Prv))) rfl rfl (by kernel_rfl) ?_; intro wT15 hm; have HT := Hd hm; have HM54 := Hd hm.rs; clear hm HM53)
                     | (refine zag rfl 24 (.tmp 313) rfl b5 (15 * 32) 32 (u8v (treeN (dep 2048) (nch (s.nP)) (padN (s.nP) (b8 s.Prv)))) rfl _ HT.out.at_ Ty24 rfl s24 _ rfl ?_; clear HT)
                     | (refine zab rfl 316 rfl (.slice s.aP s.nP s.cP) ?_ ?_; (· exact zan rfl rfl Ty39 (HM54.out.cell 987 (by omega)) HC.out.f15))
                     | (refine zab rfl 318 rfl (.int .u64 (s.nP : Int)) ?_ ?_; (· exact zdc rfl rfl (fun w => TreeRef.cvu s.nP (by omega) w) _))
                     | (refine za8 rfl (.tmp 320) (.tmp 319) rfl HM55.out (by omega) (lmixN (treeN (dep 2048) (nch (s.nP)) (padN (s.nP) (b8 s.Prv))) s.nP) (fun q _ => by show _ = lmixN (treeN (dep 2048) (lvC 2 s.nV) (padN (s.nP) (b8 s.Prv))) s.nV q; rw [RefRoot.zxl, HR.out.nP]) rfl rfl (by kernel_rfl) ?_; intro wS16 hm; have HM56 := Hd hm; clear hm HM55)
                     | (refine zab rfl 322 rfl (.slice s.aC s.nC s.cC) ?_ ?_; (· exact zan rfl rfl Ty39 (HM56.out.cell 988 (by omega)) HC.out.f16))
                     | (refine zab rfl 328 rfl (.slice s.aC s.nC s.cC) ?_ ?_; (· exact zan rfl rfl Ty39 (HM56.out.cell 988 (by omega)) HC.out.f16)))
                    | (have tx := tk54; clear tx; go_at_call 74; refine (zdh (s.nP) c15 A15 (b8 s.Prv) _ (ze5 HO.out.rd) (by omega)).mono ?_; rintro e w' ⟨A', c', rfl, ho, hb⟩; have HK := Hd ho; have HM52 := Hd (HM51.out.below hb); clear HM51; clear ho hb HO; clear tk54; have tk55 := Tok.mk 55)
                    | (have tx := tk55; clear tx; go_at_call 70; refine (zbt (nch (s.nP)) c' 2048 A' (padN (s.nP) (b8 s.Prv)) _ HK.out.rd (za6 (zcz s.Prv)) HK.out.cap (by omega) (by unfold nch; omega) (HP.out.below HM52.out.bel)).mono ?_; rintro e w' ⟨rfl, hb⟩; have HM53 := Hd (HM52.out.below hb); clear HM52; clear hb HK; clear tk55; have tk56 := Tok.mk 56)
                    | (have tx := tk56; clear tx; go_at_call 71; refine (ze4 (treeN (dep 2048) (nch (s.nP)) (padN (s.nP) (b8 s.Prv))) (za9 (za6 (zcz s.Prv)) _ _) s.nP _ (HP.out.below HM54.out.bel)).mono ?_; rintro e w' ⟨rfl, hb⟩; have HM55 := Hd (HM54.out.below hb); clear HM54; clear hb; clear tk56; have tk57 := Tok.mk 57))
                   go_loopw [30, 31] (fun u i wr => ∃ (k : Nat) (A : Option Addr) (c : Nat), u = .slice A (k) c ∧ i = .int .i64 (k : Int) ∧ k ≤ s.nC ∧ OwnZ wr wS16.heap.size 5 1 A (k) c (u8v (b8 s.Cur)) ∧ Below wS16.heap.size wS16 wr) (fun _ i _ => s.nC - (intOf i).toNat)
                   case atStart => exact ⟨0, none, 0, rfl, rfl, Nat.zero_le _, OwnZ.nil _ _ _ _ _, Below.refl _ _⟩
                   case round =>
                    obtain ⟨k, A16, c16, rfl, rfl, hk, ho, hb⟩ := hrel
                    have HO := Hd ho
                    have HB := Hd hb
                    have hsz := hb.size
                    have HSr := Hd (HM56.out.below hb)
                    clear ho hb
                    by_cases h1 : k < s.nC
                    ·skip
                     obtain ⟨ad, hA⟩ : ∃ ad, s.aC = some ad := by
                      obtain ⟨ad, e, _⟩ := HC.out.rC (show 0 < s.nC by omega); exact ⟨ad, e⟩
                     have HA := Hd hA
                     clear hA
                     have tk58 := Tok.mk 58
                     go_wp2_with (first
                      | ((with_reducible refine at_l ?_); first
                       | (refine zab rfl 328 rfl (.slice s.aC s.nC s.cC) ?_ ?_; (· exact zan rfl rfl Ty39 (HSr.out.cell 988 (by omega)) HC.out.f16))
                       | (refine zab rfl 335 rfl (.slice s.aC s.nC s.cC) ?_ ?_; (· exact zan rfl rfl Ty39 (HSr.out.cell 988 (by omega)) HC.out.f16))
                       | (refine zab rfl 337 rfl (.pointer (some (ad.add (k * 1)))) ?_ ?_; (· exact zbb rfl rfl rfl (fun w => by rw [HA.out]; exact zaw (z := 1) w Ty39 (by kernel_rfl) ad h1) _))
                       | (refine zab rfl 338 rfl (.int .u8 ((nat (s.Cur k) : Nat) : Int)) ?_ ?_; (· exact zbf .u8 rfl rfl Ty5 (by rw [Nat.mul_one]; exact ((HC.out.below HSr.out.bel).rC.cell_' HA.out h1).trans (congrArg some (HC.out.scC k h1).1))))
                       | (refine zcj rfl (e := 5) (.tmp 338) (.int .u8 ((nat (s.Cur k) : Nat) : Int)) rfl rfl (RefSmall.ziq _) (HS.nil wr) ?_; intro bn v1 hbn hcn hbl hs; have HQ5 := Hd hs; clear hs hbl))
                      | (at_builtin; refine zba _ (.tmp 333) (.tmp 339) 39 wS16.heap.size (e := 5) (z := .int .u8 0) (k := 1) (bytes := 1) (by kernel_rfl) Ty39 (by rfl) (by omega) rfl rfl (k + 1) (u8v (b8 s.Cur)) rfl rfl (HO.out.all (HQ5.out.out (by simp; omega))) (Rd.of_row (n := 1 * 1) (HQ5.out.row 0 rfl) lR (HQ5.out.lt 0 rfl)) (fun _ _ => rfl) rfl (RefRoot.zrl s.Cur k (HC.out.scC k h1)) ⟨by omega, by omega⟩ (lT hsz HQ5.out.size) ?_; intro A' c' v6 ho9 hg9 ha9; have HO9 := Hd ho9; have HG9 := Hd hg9; clear ho9 hg9 ha9))
                     go_roundw
                     case rel => exact ⟨k + 1, A', c', rfl, by go_num, by omega, HO9.out, za4 (HB.out.trans ((HQ5.out.out (by simp; omega)).mono hsz)) HG9.out (lT hsz HQ5.out.size) (fun ad e => (HO.out.base_le ad e).1)⟩
                     case measure => simp [intOf]; omega
                    ·obtain rfl : s.nC = k := by omega
                     obtain ⟨wo16, hwo⟩ : ∃ wo : World, wo = wr := ⟨_, rfl⟩
                     subst hwo
                     have HM57 := HSr
                     clear HM56 HSr HB
                     have tk59 := Tok.mk 59
                     go_wp2_with (first
                      | ((with_reducible refine at_l ?_); first
                       | (refine zab rfl 328 rfl (.slice s.aC s.nC s.cC) ?_ ?_; (· exact zan rfl rfl Ty39 (HM57.out.cell 988 (by omega)) HC.out.f16))
                       | (refine zdl rfl (.tmp 344) (.tmp 343) rfl HM59.out (by omega) (treeN (dep 2048) (nch (s.nC)) (padN (s.nC) (b8 s.Cur))) rfl rfl (by kernel_rfl) ?_; intro wT16 hm; have HT := Hd hm; have HM60 := Hd hm.rs; clear hm HM59)
                       | (refine zag rfl 24 (.tmp 345) rfl b5 (16 * 32) 32 (u8v (treeN (dep 2048) (nch (s.nC)) (padN (s.nC) (b8 s.Cur)))) rfl _ HT.out.at_ Ty24 rfl s24 _ rfl ?_; clear HT)
                       | (refine zab rfl 348 rfl (.slice s.aC s.nC s.cC) ?_ ?_; (· exact zan rfl rfl Ty39 (HM60.out.cell 988 (by omega)) HC.out.f16))
                       | (refine zab rfl 350 rfl (.int .u64 (s.nC : Int)) ?_ ?_; (· exact zdc rfl rfl (fun w => TreeRef.cvu s.nC (by omega) w) _))
                       | (refine za8 rfl (.tmp 352) (.tmp 351) rfl HM61.out (by omega) (lmixN (treeN (dep 2048) (nch (s.nC)) (padN (s.nC) (b8 s.Cur))) s.nC) (fun q _ => by show _ = lmixN (treeN (dep 2048) (lvC 3 s.nV) (padN (s.nC) (b8 s.Cur))) s.nV q; rw [RefRoot.zxm, HR.out.nC]) rfl rfl (by kernel_rfl) ?_; intro wS17 hm; have HM62 := Hd hm; clear hm HM61)
                       | (refine za8 rfl (.tmp 357) (.tmp 356) rfl HM64.out (by omega) (bitsN s.F) (fun _ _ => rfl) rfl rfl (by kernel_rfl) ?_; intro wS18 hm; have HM65 := Hd hm; clear hm HM64)
                       | (refine zag rfl 42 (.tmp 359) rfl b1 993 33 (at_ s.F 993) rfl _ (fun q hq => HM65.out.cell (993 + q) (by omega)) Ty42 rfl (by kernel_rfl) _ rfl ?_)
                       | (refine za8 rfl (.tmp 364) (.tmp 362) rfl HM66.out (by omega) (checkN (at_ s.F 993)) (fun _ _ => rfl) rfl rfl (by kernel_rfl) ?_; intro wS19 hm; have HM67 := Hd hm; clear hm HM66)
                       | (refine zag rfl 42 (.tmp 370) rfl b1 1026 33 (at_ s.F 1026) rfl _ (fun q hq => HM67.out.cell (1026 + q) (by omega)) Ty42 rfl (by kernel_rfl) _ rfl ?_)
                       | (refine za8 rfl (.tmp 375) (.tmp 373) rfl HM68.out (by omega) (checkN (at_ s.F 1026)) (fun _ _ => rfl) rfl rfl (by kernel_rfl) ?_; intro wS20 hm; have HM69 := Hd hm; clear hm HM68)
                       | (refine zag rfl 42 (.tmp 381) rfl b1 1059 33 (at_ s.F 1059) rfl _ (fun q hq => HM69.out.cell (1059 + q) (by omega)) Ty42 rfl (by kernel_rfl) _ rfl ?_)
                       | (refine za8 rfl (.tmp 386) (.tmp 384) rfl HM70.out (by omega) (checkN (at_ s.F 1059)) (fun _ _ => rfl) rfl rfl (by kernel_rfl) ?_; intro wS21 hm; have HM71 := Hd hm; clear hm HM70)
                       | (refine zab rfl 392 rfl (.slice s.aS s.nS s.cS) ?_ ?_; (· exact zan rfl rfl Ty37 (HM71.out.cell 1092 (by omega)) HC.out.f21))
                       | (refine zab rfl 398 rfl (.slice s.aS s.nS s.cS) ?_ ?_; (· exact zan rfl rfl Ty37 (HM71.out.cell 1092 (by omega)) HC.out.f21)))
                      | (have tx := tk59; clear tx; go_at_call 74; refine (zdh (s.nC) c16 A16 (b8 s.Cur) _ (ze5 HO.out.rd) (by omega)).mono ?_; rintro e w' ⟨A', c', rfl, ho, hb⟩; have HK := Hd ho; have HM58 := Hd (HM57.out.below hb); clear HM57; clear ho hb HO; clear tk59; have tk60 := Tok.mk 60)
                      | (have tx := tk60; clear tx; go_at_call 70; refine (zbt (nch (s.nC)) c' 2048 A' (padN (s.nC) (b8 s.Cur)) _ HK.out.rd (za6 (zcz s.Cur)) HK.out.cap (by omega) (by unfold nch; omega) (HP.out.below HM58.out.bel)).mono ?_; rintro e w' ⟨rfl, hb⟩; have HM59 := Hd (HM58.out.below hb); clear HM58; clear hb HK; clear tk60; have tk61 := Tok.mk 61)
                      | (have tx := tk61; clear tx; go_at_call 71; refine (ze4 (treeN (dep 2048) (nch (s.nC)) (padN (s.nC) (b8 s.Cur))) (za9 (za6 (zcz s.Cur)) _ _) s.nC _ (HP.out.below HM60.out.bel)).mono ?_; rintro e w' ⟨rfl, hb⟩; have HM61 := Hd (HM60.out.below hb); clear HM60; clear hb; clear tk61; have tk62 := Tok.mk 62)
                      | (have tx := tk62; clear tx; go_at_call 75; refine (zlo _ 4 4 (some ⟨b1, 989, none⟩) (fun i => bln (s.F (989 + i))) _ (Rd.of_part HM62.out.row1 (show 989 + 4 ≤ 1957 by omega) HBt.out) lR (by omega)).mono ?_; rintro e w' ⟨g, rfl, hg, hr, hb⟩; have HG := Hd hr; have HM63 := Hd (HM62.out.below hb); clear HM62; clear hg hr hb; clear tk62; have tk63 := Tok.mk 63)
                      | (have tx := tk63; clear tx; go_at_call 66; refine (zfa 1 1 (some ⟨g, 0, none⟩) (byteOf (fun i => bln (s.F (989 + i))) 4) _ (Rd.of_row (n := 1) (m := 1) HG.out lR HG.out.lt) (zh4 _ _) rfl (HP.out.below HM63.out.bel)).mono ?_; rintro e w' ⟨rfl, hb⟩; rw [show padN 1 (byteOf (fun i => bln (s.F (989 + i))) 4) = bitsN s.F from rfl]; have HM64 := Hd (HM63.out.below hb); clear HM63; clear hb HG; clear tk63; have tk64 := Tok.mk 64)
                      | (have tx := tk64; clear tx; go_at_call 76; refine (zid (at_ s.F 993) (HC.out.sc.at_ 993 33 42 (by kernel_rfl) (zbl (n := 33) Ty42 (by kernel_rfl))) _ (HP.out.below HM65.out.bel)).mono ?_; rintro e w' ⟨rfl, hb⟩; have HM66 := Hd (HM65.out.below hb); clear HM65; clear hb; clear tk64; have tk65 := Tok.mk 65)
                      | (have tx := tk65; clear tx; go_at_call 76; refine (zid (at_ s.F 1026) (HC.out.sc.at_ 1026 33 42 (by kernel_rfl) (zbl (n := 33) Ty42 (by kernel_rfl))) _ (HP.out.below HM67.out.bel)).mono ?_; rintro e w' ⟨rfl, hb⟩; have HM68 := Hd (HM67.out.below hb); clear HM67; clear hb; clear tk65; have tk66 := Tok.mk 66)
                      | (have tx := tk66; clear tx; go_at_call 76; refine (zid (at_ s.F 1059) (HC.out.sc.at_ 1059 33 42 (by kernel_rfl) (zbl (n := 33) Ty42 (by kernel_rfl))) _ (HP.out.below HM69.out.bel)).mono ?_; rintro e w' ⟨rfl, hb⟩; have HM70 := Hd (HM69.out.below hb); clear HM69; clear hb; clear tk66; have tk67 := Tok.mk 67))
                     go_loopw [32, 33] (fun u i wr => ∃ (k : Nat) (A : Option Addr) (c : Nat), u = .slice A (8 * k) c ∧ i = .int .i64 (k : Int) ∧ k ≤ s.nS ∧ OwnZ wr wS21.heap.size 5 1 A (8 * k) c (u8v (LiveSmall.leS (fun i => nat (s.Sco i)))) ∧ Below wS21.heap.size wS21 wr) (fun _ i _ => s.nS - (intOf i).toNat)
                     case atStart => exact ⟨0, none, 0, rfl, rfl, Nat.zero_le _, OwnZ.nil _ _ _ _ _, Below.refl _ _⟩
                     case round =>
                      obtain ⟨k, A21, c21, rfl, rfl, hk, ho, hb⟩ := hrel
                      have HO := Hd ho
                      have HB := Hd hb
                      have hsz := hb.size
                      have HSr := Hd (HM71.out.below hb)
                      clear ho hb
                      by_cases h1 : k < s.nS
                      ·skip
                       obtain ⟨ad, hA⟩ : ∃ ad, s.aS = some ad := by
                        obtain ⟨ad, e, _⟩ := HC.out.rS (show 0 < s.nS by omega); exact ⟨ad, e⟩
                       have HA := Hd hA
                       clear hA
                       have tk68 := Tok.mk 68
                       go_wp2_with (first
                        | ((with_reducible refine at_l ?_); first
                         | (refine zab rfl 398 rfl (.slice s.aS s.nS s.cS) ?_ ?_; (· exact zan rfl rfl Ty37 (HSr.out.cell 1092 (by omega)) HC.out.f21))
                         | (refine zab rfl 405 rfl (.slice s.aS s.nS s.cS) ?_ ?_; (· exact zan rfl rfl Ty37 (HSr.out.cell 1092 (by omega)) HC.out.f21))
                         | (refine zab rfl 407 rfl (.pointer (some (ad.add (k * 1)))) ?_ ?_; (· exact zbb rfl rfl rfl (fun w => by rw [HA.out]; exact zaw (z := 1) w Ty37 (by kernel_rfl) ad h1) _))
                         | (refine zab rfl 408 rfl (.int .u64 ((nat (s.Sco k) : Nat) : Int)) ?_ ?_; (· exact zbf .u64 rfl rfl Ty22 (by rw [Nat.mul_one]; exact ((HC.out.below HSr.out.bel).rS.cell_' HA.out h1).trans (congrArg some (HC.out.scS k h1).1)))))
                        | (have tx := tk68; clear tx; go_at_call 67; refine (zes (nat (s.Sco k)) _).mono ?_; rintro e v1 ⟨A1, c1, rfl, hc, hr, hb⟩; have HN := Hd hr; have HV1 := Hd hb; clear hc hr hb; clear tk68; have tk69 := Tok.mk 69)
                        | (at_builtin; refine zba _ (.tmp 403) (.tmp 409) 39 wS21.heap.size (e := 5) (z := .int .u8 0) (k := 1) (bytes := 1) (by kernel_rfl) Ty39 (by rfl) (by omega) rfl rfl (8 * (k + 1)) (u8v (LiveSmall.leS (fun i => nat (s.Sco i)))) rfl rfl (HO.out.all HV1.out) (show Rd v1 v1.heap.size A1 (8 * 1) (u8v (leB (nat (s.Sco k)))) from HN.out) (fun _ _ => rfl) (by omega) (RefRoot.zne (fun i => nat (s.Sco i)) k) ⟨by omega, by omega⟩ (lT hsz HV1.out.size) ?_; intro A' c' v6 ho9 hg9 ha9; have HO9 := Hd ho9; have HG9 := Hd hg9; clear ho9 hg9 ha9))
                       go_roundw
                       case rel => exact ⟨k + 1, A', c', rfl, by go_num, by omega, HO9.out, za4 (HB.out.trans (HV1.out.mono hsz)) HG9.out (lT hsz HV1.out.size) (fun ad e => (HO.out.base_le ad e).1)⟩
                       case measure => simp [intOf]; omega
                      ·obtain rfl : s.nS = k := by omega
                       obtain ⟨wo21, hwo⟩ : ∃ wo : World, wo = wr := ⟨_, rfl⟩
                       subst hwo
                       have HM72 := HSr
                       clear HM71 HSr HB
                       have tk70 := Tok.mk 70
                       go_wp2_with (first
                        | ((with_reducible refine at_l ?_); first
                         | (refine zab rfl 398 rfl (.slice s.aS s.nS s.cS) ?_ ?_; (· exact zan rfl rfl Ty37 (HM72.out.cell 1092 (by omega)) HC.out.f21))
                         | (refine zdl rfl (.tmp 414) (.tmp 413) rfl HM74.out (by omega) (treeN (dep 16384) (nch (8 * s.nS)) (padN (8 * s.nS) (LiveSmall.leS fun i => nat (s.Sco i)))) rfl rfl (by kernel_rfl) ?_; intro wT21 hm; have HT := Hd hm; have HM75 := Hd hm.rs; clear hm HM74)
                         | (refine zag rfl 24 (.tmp 415) rfl b5 (21 * 32) 32 (u8v (treeN (dep 16384) (nch (8 * s.nS)) (padN (8 * s.nS) (LiveSmall.leS fun i => nat (s.Sco i))))) rfl _ HT.out.at_ Ty24 rfl s24 _ rfl ?_; clear HT)
                         | (refine zab rfl 418 rfl (.slice s.aS s.nS s.cS) ?_ ?_; (· exact zan rfl rfl Ty37 (HM75.out.cell 1092 (by omega)) HC.out.f21))
                         | (refine zab rfl 420 rfl (.int .u64 (s.nS : Int)) ?_ ?_; (· exact zdc rfl rfl (fun w => TreeRef.cvu s.nS (by omega) w) _))
                         | (refine za8 rfl (.tmp 422) (.tmp 421) rfl HM76.out (by omega) (lmixN (treeN (dep 16384) (nch (8 * s.nS)) (padN (8 * s.nS) (LiveSmall.leS fun i => nat (s.Sco i)))) s.nS) (fun q _ => by show _ = lmixN (treeN (dep 16384) (lvC 4 s.nV) (padN (8 * s.nS) (LiveSmall.leS fun i => nat (s.Sco i)))) s.nV q; rw [RefRoot.zxn, HR.out.nS]) rfl rfl (by kernel_rfl) ?_; intro wS22 hm; have HM77 := Hd hm; clear hm HM76)
                         | (refine zag rfl 47 (.tmp 424) rfl b1 1093 432 (at_ s.F 1093) rfl _ (fun q hq => HM77.out.cell (1093 + q) (by omega)) Ty47 rfl (by kernel_rfl) _ rfl ?_)
                         | (refine za8 rfl (.tmp 429) (.tmp 427) rfl HM78.out (by omega) (commN (at_ s.F 1093)) (fun _ _ => rfl) rfl rfl (by kernel_rfl) ?_; intro wS23 hm; have HM79 := Hd hm; clear hm HM78)
                         | (refine zag rfl 47 (.tmp 435) rfl b1 1525 432 (at_ s.F 1525) rfl _ (fun q hq => HM79.out.cell (1525 + q) (by omega)) Ty47 rfl (by kernel_rfl) _ rfl ?_)
                         | (refine za8 rfl (.tmp 440) (.tmp 438) rfl HM80.out (by omega) (commN (at_ s.F 1525)) (fun _ _ => rfl) rfl rfl (by kernel_rfl) ?_; intro wS24 hm; have HM81 := Hd hm; clear hm HM80)
                         | (refine znt rfl (.tmp 2) (.tmp 447) rfl HM82.out (stN s) rfl rfl (by kernel_rfl) ?_; intro wy hr hb; have HY := Hd hr; have HZ := Hd hb; clear hr hb))
                        | (have tx := tk70; clear tx; go_at_call 74; refine (zdh (8 * s.nS) c21 A21 (LiveSmall.leS fun i => nat (s.Sco i)) _ (ze5 HO.out.rd) (by omega)).mono ?_; rintro e w' ⟨A', c', rfl, ho, hb⟩; have HK := Hd ho; have HM73 := Hd (HM72.out.below hb); clear HM72; clear ho hb HO; clear tk70; have tk71 := Tok.mk 71)
                        | (have tx := tk71; clear tx; go_at_call 70; refine (zbt (nch (8 * s.nS)) c' 16384 A' (padN (8 * s.nS) (LiveSmall.leS fun i => nat (s.Sco i))) _ HK.out.rd (za6 (fun _ => zbq _ _)) HK.out.cap (by omega) (by unfold nch; omega) (HP.out.below HM73.out.bel)).mono ?_; rintro e w' ⟨rfl, hb⟩; have HM74 := Hd (HM73.out.below hb); clear HM73; clear hb HK; clear tk71; have tk72 := Tok.mk 72)
                        | (have tx := tk72; clear tx; go_at_call 71; refine (ze4 (treeN (dep 16384) (nch (8 * s.nS)) (padN (8 * s.nS) (LiveSmall.leS fun i => nat (s.Sco i)))) (za9 (za6 (fun _ => zbq _ _)) _ _) s.nS _ (HP.out.below HM75.out.bel)).mono ?_; rintro e w' ⟨rfl, hb⟩; have HM76 := Hd (HM75.out.below hb); clear HM75; clear hb; clear tk72; have tk73 := Tok.mk 73)
                        | (have tx := tk73; clear tx; go_at_call 77; refine (znf (at_ s.F 1093) (HC.out.sc.at_ 1093 432 47 (by kernel_rfl) (zbl (n := 432) Ty47 (by kernel_rfl))) _ (HP.out.below HM77.out.bel)).mono ?_; rintro e w' ⟨rfl, hb⟩; have HM78 := Hd (HM77.out.below hb); clear HM77; clear hb; clear tk73; have tk74 := Tok.mk 74)
                        | (have tx := tk74; clear tx; go_at_call 77; refine (znf (at_ s.F 1525) (HC.out.sc.at_ 1525 432 47 (by kernel_rfl) (zbl (n := 432) Ty47 (by kernel_rfl))) _ (HP.out.below HM79.out.bel)).mono ?_; rintro e w' ⟨rfl, hb⟩; have HM80 := Hd (HM79.out.below hb); clear HM79; clear hb; clear tk74; have tk75 := Tok.mk 75)
                        | (have tx := tk75; clear tx; go_at_call 70; refine (zbt 24 24 24 (some ⟨b5, 0, none⟩) (stX s) _ HM81.out.rd (zmr s) lR (by omega) lR (HP.out.below HM81.out.bel)).mono ?_; rintro e w' ⟨rfl, hb⟩; rw [show treeN (dep 24) 24 (stX s) = stN s from rfl]; have HM82 := Hd (HM81.out.below hb); clear HM81; clear hb; clear tk75; have tk76 := Tok.mk 76))
                       exact zb4 rfl HY.out _ _ rfl rfl Ty24 rfl s24 rfl ⟨rfl, HZ.out⟩
theorem zhh (s : StV) (w : World) (hS : StOk w w.heap.size s) (hR : RightF s) (hp : RefPkg w) :
 Calls Tryd.prog 15 #[.agg (arr 1957 s.F)] w fun e w' => e = .returned (rootV (stN s)) ∧ Below w.heap.size w w' := by
 have HP := Hd hp
 have HC := Hd hS
 have HR := Hd hR
 have HS0 := Hd (HS.nil w)
 clear hp hS hR
 go_enter Tryd.func15, Tryd.ntmps15
 go_wp2_with (first
  | ((with_reducible refine at_l ?_); first
   | (refine zaz rfl 49 _ 1 rfl rfl HS0.out 1957 s.F rfl ?_; intro b1 w1 hb1 hc1 hs; have HS1 := Hd hs; clear hs)
   | (refine zac rfl 24 2 rfl rfl HS1.out _ z24 32 (u8v fun _ => 0) n24 f24 ?_; intro b2 w2 hb2 hc2 hs; have HS2 := Hd hs; clear hs)
   | (refine zae rfl 49 (.tmp 1) rfl 1957 _ Ty49 rfl (by kernel_rfl) ⟨b1, 0, none⟩ rfl s.F (fun i hi => by rw [zai]; exact (HS2.out.row 1 rfl).cell hi) ?_)
   | (refine zac rfl 24 3 rfl rfl HS3.out _ z24 32 (u8v fun _ => 0) n24 f24 ?_; intro b3 w4 hb3 hc3 hs; have HS4 := Hd hs; clear hs)
   | (refine zaf rfl 24 (.tmp 3) (.tmp 8) rfl HS4.out 0 rfl (u8v (stN s)) rfl rfl (by kernel_rfl) (fun _ _ => rfl) ?_; intro w5 hs; have HS5 := Hd hs; clear hs)
   | (refine zae rfl 24 (.tmp 3) rfl 32 _ Ty24 rfl s24 ⟨b3, 0, none⟩ rfl (u8v (stN s)) (fun i hi => by rw [zai]; exact HS5.out.cell 0 i rfl hi) ?_)
   | (refine zaf rfl 24 (.tmp 2) (.tmp 10) rfl HS5.out 1 rfl (u8v (stN s)) rfl rfl (by kernel_rfl) (fun _ _ => rfl) ?_; intro wy hs; have HY := Hd hs; clear hs))
  | (go_at_call 42; refine (zlp s _ ((HC.out.below (HS2.out.out (by simp; omega))).more HS2.out.size) HR.out (HP.out.below (HS2.out.out (by simp; omega)))).mono ?_; rintro e w3 ⟨rfl, hb⟩; have HS3 := Hd (HS2.out.below hb); clear hb))
 exact za5 rfl (HY.out.row 1 rfl) _ rfl Ty24 rfl s24 rfl ⟨rfl, HY.out.out (by simp; omega)⟩
end Go.Proofs.YtomilckcgmhfcaaDoor
