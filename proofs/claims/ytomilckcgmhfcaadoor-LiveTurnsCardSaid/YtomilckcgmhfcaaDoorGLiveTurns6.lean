/- Lemmas that the proof stands on. -/
import Derived.Test.YtomilckcgmhfcaaDoorGLiveTurns2
import Derived.Test.YtomilckcgmhfcaaDoorGLiveTurns3
import Derived.Test.YtomilckcgmhfcaaDoorGLiveTurns5
namespace Go.Proofs.YtomilckcgmhfcaaDoor
set_option maxRecDepth 40000
set_option maxHeartbeats 64000000
open Go.RowKit
namespace LiveTurns
theorem zie {s t : StV} (e : SameS s t) (hR : RightF s) (hF : Sc s.F 49) : ∀ i, i < 32 → stN t i = stN s i := zcs (x := stX t) (y := stX s) (zb5 24) (fun i hi => by unfold stX; exact zre e.seq hR hF _ (by omega) _ (by omega))
theorem zio (vs : Array Value) (w : World) : (callFunc 11 vs).run Tryd.prog w = .ok (.enter 11 vs) w := by kernel_rfl
theorem zkq (vs : Array Value) (w : World) : (callFunc 15 vs).run Tryd.prog w = .ok (.enter 15 vs) w := by kernel_rfl
theorem beside {w w' : World} {L b n : Nat} {t : TypeId} {f : Nat → Value} {s s' : StV} {T T' : Nat → Nat} {v v' : Nat → TV} (k : LStep w w' L s T v s' T' v') (hr : w.rowIs b t n f) (hn : ¬ LOwn L s T v b) : w'.rowIs b t n f ∧ ¬ LOwn L s' T' v' b :=
 ⟨k.chg.row hr hn, fun ho => (k.newO _ ho).elim hn (fun h => absurd hr.lt (by omega))⟩
end LiveTurns
open LiveTurns in
set_option maxRecDepth 100000 in
theorem zlq (w : World) (s : StV) (hS : StOk w w.heap.size s) (u : StV) (hU : StOk w w.heap.size u) (hp : ShaPkg w) (hrf : RefPkg w) (hpt : TzPkg w) :
 Calls Tryd.prog 4 #[.agg (arr 1957 s.F), .agg (arr 1957 u.F)] w fun e w' => e = .returned (.bool true) ∧ Below w.heap.size w w' := by
 have HSt := Hd hS
 have HUt := Hd hU
 have HP := Hd hp
 have HPt := Hd hpt
 have HRf := Hd hrf
 have hpl := hp.lt
 have htl := hpt.lt
 have HS0 := Hd (HS.nil w)
 clear hS hU hp hpt hrf
 go_enter Tryd.func4, Tryd.ntmps4
 go_upto_region 3 with (first
  | ((with_reducible refine at_l ?_); first
   | (refine zaz rfl 49 _ 2 rfl rfl HS0.out 1957 s.F rfl ?_; intro b2 w0 hqb2 hcb2 hs; have HSa := Hd hs; clear hs)
   | (refine zaz rfl 49 _ 3 rfl rfl HSa.out 1957 u.F rfl ?_; intro b3 w1 hqb3 hcb3 hs; have HS1 := Hd hs; clear hs))
  | (go_at_call 5; refine (zns _ (HP.out.below (HS1.out.out (by simp; omega))) (HPt.out.below (HS1.out.out (by simp; omega)) HPt.out.lt)).mono ?_; rintro r w2 ⟨rfl, hb⟩; have HS2 := Hd (HS1.out.below hb); clear hb))
 have tk0 := Tok.mk 0
 by_cases hR : RightF s
 case neg =>
  have HR := Hd hR
  clear hR
  go_wp2_with (first
   | (have tx := tk0; clear tx; (with_reducible refine at_l ?_); refine zae rfl 49 (.tmp 2) rfl 1957 _ Ty49 rfl (by kernel_rfl) _ rfl s.F (fun i hi => by rw [zai]; exact (HS2.out.row 1 rfl).cell hi) ?_; clear tk0; have tk1 := Tok.mk 1)
   | (have tx := tk1; clear tx; go_at_call 6; refine (zq2 s _ ((HSt.out.below (HS2.out.out (by simp; omega))).more HS2.out.size) HR.out).mono ?_; rintro r w3 ⟨rfl, hb⟩; have HS3 := Hd (HS2.out.below hb); clear hb; clear tk1; have tk2 := Tok.mk 2)
   | (have tx := tk2; clear tx; (with_reducible refine at_l ?_); refine zae rfl 49 (.tmp 2) rfl 1957 _ Ty49 rfl (by kernel_rfl) _ rfl s.F (fun i hi => by rw [zai]; exact (HS3.out.row 1 rfl).cell hi) ?_; clear tk2; have tk3 := Tok.mk 3)
   | (have tx := tk3; clear tx; go_at_call 7; refine (zic s _ ((HSt.out.below (HS3.out.out (by simp; omega))).more HS3.out.size)).mono ?_; rintro r w5 ⟨b, rfl, hb, hbw⟩; obtain rfl : b = false := (by cases b <;> first | rfl | exact absurd (hb.1 rfl) HR.out); have HS5 := Hd (HS3.out.below hbw); clear hb hbw; clear tk3; have tk4 := Tok.mk 4))
  go_ret
  exact ⟨rfl, HS5.out.out (by simp; omega)⟩
 case pos =>
  have HR := Hd hR
  clear hR
  obtain ⟨B1, hB1⟩ : ∃ B1, B1 = w2.heap.size := ⟨_, rfl⟩
  have hszw : w.heap.size ≤ B1 := by rw [hB1]; exact HS2.out.size
  have HX := Hd ((HSt.out.below (HS2.out.out (by simp; omega))).more HS2.out.size)
  have HXu := Hd ((HUt.out.below (HS2.out.out (by simp; omega))).more HS2.out.size)
  rw [← hB1] at HX HXu
  have HP2 := Hd (HP.out.below (HS2.out.out (by simp; omega)))
  have HPt2 := Hd (HPt.out.below (HS2.out.out (by simp; omega)) HPt.out.lt)
  have HRf2 := Hd (HRf.out.below (HS2.out.out (by simp; omega)))
  have HPB : Hid (0 < B1 ∧ 1 < B1) := Hd ⟨by omega, by omega⟩
  have HTB : Hid (2 < B1) := Hd (by omega)
  have hb2B : b2 < B1 := by rw [hB1]; exact HS2.out.lt 1 rfl
  have hb3B : b3 < B1 := by rw [hB1]; exact HS2.out.lt 0 rfl
  have HXr := Hd (fun (w' : World) (hb : Below B1 w2 w') => show w'.rowIs b2 49 1957 s.F from zaj (HS2.out.row 1 rfl) hb hb2B)
  have HUr := Hd (fun (w' : World) (hb : Below B1 w2 w') => show w'.rowIs b3 49 1957 u.F from zaj (HS2.out.row 0 rfl) hb hb3B)
  have HBW : Hid (Below w.heap.size w w2) := Hd (HS2.out.out (by simp; omega))
  go_upto_region 7 with (first
   | (have tx := tk0; clear tx; (with_reducible refine at_l ?_); refine zae rfl 49 (.tmp 2) rfl 1957 _ Ty49 rfl (by kernel_rfl) _ rfl s.F (fun i hi => by rw [zai]; exact (HS2.out.row 1 rfl).cell hi) ?_; clear tk0; have tk1 := Tok.mk 1)
   | (have tx := tk1; clear tx; go_at_call 6; refine (zlc s _ ((HSt.out.below (HS2.out.out (by simp; omega))).more HS2.out.size) HR.out (HP.out.below (HS2.out.out (by simp; omega)))).mono ?_; rintro r w3 ⟨L1, t1, T1, v1, rfl, hl, hsm, hb⟩; rw [← hB1] at hl hb; have HL1 := Hd hl; have HM1 := Hd hsm; have HB3 := Hd hb; clear hl hsm hb; clear tk1; have tk2 := Tok.mk 2)
   | (have tx := tk2; clear tx; go_at_call 11; refine (zdo B1 L1 0 t1 T1 _ v1 HL1.out (by simp) (HP2.out.belowB HPB.out HB3.out) HPB.out (HPt2.out.below HB3.out HTB.out) HTB.out).mono ?_; rintro r w4 ⟨v2, rfl, hl, hst⟩; have HL4 := Hd hl; have HB4 := Hd (HB3.out.trans (hst.below HL1.out.lm lR)); clear hl hst; clear tk2; have tk3 := Tok.mk 3)
   | (have tx := tk3; clear tx; (with_reducible refine at_l ?_); refine zac rfl 24 6 rfl rfl (HS.nil w4) _ z24 32 (u8v fun _ => 0) n24 f24 ?_; intro b6 w5 hb6 hc6 hs; have HS5 := Hd hs; clear hs; clear tk3; have tk4 := Tok.mk 4)
   | (have tx := tk4; clear tx; (with_reducible refine at_l ?_); refine zaf rfl 24 (.tmp 6) (.tmp 20) rfl HS5.out 0 rfl (u8v (stN t1)) rfl rfl (by kernel_rfl) (fun _ _ => rfl) ?_; intro w6 hs; have HS6 := Hd hs; clear hs; clear tk4; have tk5 := Tok.mk 5))
  have HBl := Hd (HS6.out.out (by simp; omega))
  have HL6 := Hd (HL4.out.below HBl.out)
  have HR6 : Hid (w6.rowIs b6 24 32 (u8v (stN t1))) := Hd (HS6.out.row 0 rfl)
  have HN6 : Hid (¬ LOwn L1 t1 T1 v2 b6) := Hd (fun hb => by have := HL4.out.lm.lt hb; omega)
  have HB6 := Hd (thnB HB4.out HBl.out (by rw [hB1]; exact HB4.out.size))
  have HE1 := Hd (zie HM1.out HR.out HX.out.sc)
  clear HS5 HS6 HBl HL1 HL4 HB3 HB4 HS2 HS1 HSa hszw
  by_cases hRu : RightF u
  case neg =>
   have HRu := Hd hRu
   clear hRu
   go_upto_region 9 with (first
    | (have tx := tk5; clear tx; (with_reducible refine at_l ?_); refine zae rfl 49 (.tmp 3) rfl 1957 _ Ty49 rfl (by kernel_rfl) _ rfl u.F (fun i hi => by rw [zai]; exact (HUr.out _ HB6.out).cell hi) ?_; clear tk5; have tk6 := Tok.mk 6)
    | (have tx := tk6; clear tx; go_at_call 14; refine (zpd L1 u _ ((HXu.out.below HB6.out).more (by rw [hB1]; exact (HB6.out).size)) HRu.out).mono ?_; rintro r w7 ⟨rfl, hb⟩; have HL7 := Hd (HL6.out.below hb); have HR7 := Hd (zaj HR6.out hb HR6.out.lt); have HB7 := Hd (thnB HB6.out hb (by rw [hB1]; exact HB6.out.size)); clear hb; clear tk6; have tk7 := Tok.mk 7)
    | (have tx := tk7; clear tx; (with_reducible refine at_l ?_); refine zae rfl 49 (.tmp 3) rfl 1957 _ Ty49 rfl (by kernel_rfl) _ rfl u.F (fun i hi => by rw [zai]; exact (HUr.out _ HB7.out).cell hi) ?_; clear tk7; have tk8 := Tok.mk 8)
    | (have tx := tk8; clear tx; go_at_call 7; refine (zic u _ ((HXu.out.below HB7.out).more (by rw [hB1]; exact (HB7.out).size))).mono ?_; rintro r w8 ⟨b, rfl, hb, hbw⟩; obtain rfl : b = false := (by cases b <;> first | rfl | exact absurd (hb.1 rfl) HRu.out); have HL8 := Hd (HL7.out.below hbw); have HR8 := Hd (zaj HR7.out hbw HR7.out.lt); have HB8 := Hd (thnB HB7.out hbw (by rw [hB1]; exact HB7.out.size)); clear hb hbw; clear tk8; have tk9 := Tok.mk 9))
   refine zeu (l := [_, _, _, _, _, _, _, _, _, _, _, _, _, _, _]) (N := 1) (fun q wj => (∃ v, LV wj B1 L1 t1 T1 v (400000 + q * 400000) ∧ ¬ LOwn L1 t1 T1 v b6) ∧ wj.rowIs b6 24 32 (u8v (stN t1)) ∧ Below B1 w2 wj) [sI (.int .i64 1), sI (.bool true), sI (.bool true), sI (.pointer (some ⟨L1, 0, none⟩)), sI (rootV (stN t1)), sI (rootV (stN t1)), sI (.bool true), sI (.bool true), sI (.bool true), sI (rootV (stN t1)), sI (.agg (arr 1957 s.F)), sI (rootV (stN s)), sI (.bool true), sI (.bool true), sI (.bool true)] [none, none, none, none, some 0, none, none, none, none, none, none, none, none, none, none] (by kernel_rfl) (by kernel_rfl) (by kernel_rfl) rfl rfl (fun q wa wb ⟨⟨v, h1, n1⟩, h2, h3⟩ hb => ⟨⟨v, h1.below hb, n1⟩, zaj h2 hb h2.lt, thnB h3 hb (by rw [hB1]; exact h3.size)⟩) (zkl (Fs := [.int .i64 1, .bool true, .bool true, .pointer (some ⟨L1, 0, none⟩), rootV (stN t1), rootV (stN t1), .bool true, .bool true, .bool true, rootV (stN t1), .agg (arr 1957 s.F), rootV (stN s), .bool true, .bool true, .bool true])) (⟨⟨v2, HL8.out, HN6.out⟩, HR8.out, HB8.out⟩) ⟨?_, ?_, ?_, ?_, ?_, ?_, ?_, ?_, ?_, ?_, ?_, ?_, ?_, ?_, ?_, trivial⟩ ?_
   ·exact fun kj wj hj => (zaa _ rfl (.inl rfl) rfl)
   ·exact fun kj wj hj => zfq .i64 1 1 true Ty54 (by simp) rfl rfl (oT rfl) OpK.const
   ·exact fun kj wj hj => (zaa _ rfl (.inl rfl) rfl)
   ·exact fun kj wj hj => zav 29 rfl rfl ((zaa _ rfl (.inl rfl) rfl))
   ·exact zm0 29 rfl rfl (zkm zio rfl rfl (oT rfl) (fun wj ⟨⟨v, h1, n1⟩, h2, h3⟩ => (zdo B1 L1 (400000 + 0 * 400000) t1 T1 _ v h1 (by simp) (HP2.out.belowB HPB.out h3) HPB.out (HPt2.out.below h3 HTB.out) HTB.out).mono fun e w3 ⟨v', he, k1, k2⟩ => ⟨_, he, rfl, ⟨v', k1, (beside k2 h2 n1).2⟩, (beside k2 h2 n1).1, h3.trans (k2.below h1.lm lR)⟩))
   ·exact fun kj wj hj => zav 29 rfl rfl (zad rfl rfl (oT rfl) (fun w' hb => zd2 hj.2.1 (hj.2.1).lt Ty24 rfl s24 w' hb))
   ·exact fun kj wj hj => zav 29 rfl rfl (LiveAwake.zer true rfl rfl (oT rfl) (oT rfl) ⟨fun _ => fun _ _ => rfl, fun _ => rfl⟩)
   ·exact fun kj wj hj => zcn rfl rfl rfl (oT rfl)
   ·exact fun kj wj hj => (zaa _ rfl (.inl rfl) rfl)
   ·exact fun kj wj hj => zav 35 rfl rfl (zad rfl rfl (oT rfl) (fun w' hb => zd2 hj.2.1 (hj.2.1).lt Ty24 rfl s24 w' hb))
   ·exact fun kj wj hj => zav 35 rfl rfl (zad rfl rfl (oT rfl) (fun w' hb => zd2 (HXr.out wj hj.2.2) (HXr.out wj hj.2.2).lt Ty49 rfl (by kernel_rfl) w' hb))
   ·exact fun kj wj hj => zav 35 rfl rfl (zby zkq rfl rfl (oT rfl) (fun w' hb => (zhh s w' ((HX.out.below (thnB hj.2.2 hb (by rw [hB1]; exact hj.2.2.size))).more (by rw [hB1]; exact lT hj.2.2.size hb.size)) HR.out (HRf2.out.below (by have h := thnB hj.2.2 hb (by rw [hB1]; exact hj.2.2.size); rw [hB1] at h; exact h))).mono fun r w'' ⟨he, hw⟩ => ⟨_, he, rfl, hw⟩))
   ·exact fun kj wj hj => zav 35 rfl rfl (LiveAwake.zer true rfl rfl (oT rfl) (oT rfl) ⟨fun _ => HE1.out, fun _ => rfl⟩)
   ·exact fun kj wj hj => zcn rfl rfl rfl (oT rfl)
   ·exact fun kj wj hj => (zaa _ rfl (.inr rfl) rfl)
   ·intro wn hj
    simp only [fin, sI, forall_eq]
    simp only [pcX]
    obtain ⟨_, _, h3⟩ := hj
    rw [hB1] at h3
    have HBe := Hd (thnB HBW.out h3 HBW.out.size)
    clear h3
    go_wp2_with fail
    go_ret
    exact ⟨rfl, HBe.out⟩
  case pos =>
   have HRu := Hd hRu
   clear hRu
   go_upto_region 12 with (first
    | (have tx := tk5; clear tx; (with_reducible refine at_l ?_); refine zae rfl 49 (.tmp 3) rfl 1957 _ Ty49 rfl (by kernel_rfl) _ rfl u.F (fun i hi => by rw [zai]; exact (HUr.out _ HB6.out).cell hi) ?_; clear tk5; have tk6 := Tok.mk 6)
    | (have tx := tk6; clear tx; go_at_call 14; refine (zlg B1 L1 400000 t1 u T1 _ v2 HL6.out (HXu.out.below HB6.out) HRu.out (HP2.out.belowB HPB.out HB6.out) HPB.out).mono ?_; rintro r w7 ⟨t2, T2, v3, rfl, hl, hsm, hst⟩; have HL7 := Hd hl; have HM2 := Hd hsm; have hbs := beside hst HR6.out HN6.out; have HR7 := Hd hbs.1; have HN7 := Hd hbs.2; have HB7 := Hd (HB6.out.trans (hst.below HL6.out.lm lR)); clear hl hsm hst hbs; clear tk6; have tk7 := Tok.mk 7)
    | (have tx := tk7; clear tx; (with_reducible refine at_l ?_); refine zae rfl 49 (.tmp 3) rfl 1957 _ Ty49 rfl (by kernel_rfl) _ rfl u.F (fun i hi => by rw [zai]; exact (HUr.out _ HB7.out).cell hi) ?_; clear tk7; have tk8 := Tok.mk 8)
    | (have tx := tk8; clear tx; go_at_call 7; refine (zic u _ ((HXu.out.below HB7.out).more (by rw [hB1]; exact (HB7.out).size))).mono ?_; rintro r w8 ⟨b, rfl, hb, hbw⟩; obtain rfl : b = true := hb.2 HRu.out; have HL8 := Hd (HL7.out.below hbw); have HR8 := Hd (zaj HR7.out hbw HR7.out.lt); have HB8 := Hd (thnB HB7.out hbw (by rw [hB1]; exact HB7.out.size)); clear hb hbw; clear tk8; have tk9 := Tok.mk 9)
    | (have tx := tk9; clear tx; go_at_call 11; refine (zdo B1 L1 400000 t2 T2 _ v3 HL8.out (by simp) (HP2.out.belowB HPB.out HB8.out) HPB.out (HPt2.out.below HB8.out HTB.out) HTB.out).mono ?_; rintro r w9 ⟨v4, rfl, hl, hst⟩; have HL9 := Hd hl; have hbs := beside hst HR8.out HN7.out; have HR9 := Hd hbs.1; have HN9 := Hd hbs.2; have HB9 := Hd (HB8.out.trans (hst.below HL8.out.lm lR)); clear hl hst hbs; clear tk9; have tk10 := Tok.mk 10)
    | (have tx := tk10; clear tx; (with_reducible refine at_l ?_); refine zac rfl 24 8 rfl rfl (HS.nil w9) _ z24 32 (u8v fun _ => 0) n24 f24 ?_; intro b8 w10 hb8 hc8 hs; have HS10 := Hd hs; clear hs; clear tk10; have tk11 := Tok.mk 11)
    | (have tx := tk11; clear tx; (with_reducible refine at_l ?_); refine zaf rfl 24 (.tmp 8) (.tmp 42) rfl HS10.out 0 rfl (u8v (stN t2)) rfl rfl (by kernel_rfl) (fun _ _ => rfl) ?_; intro w11 hs; have HBl := Hd (hs.out (by simp; omega)); have HL11 := Hd (HL9.out.below HBl.out); have HR11 := Hd (zaj HR9.out HBl.out HR9.out.lt); have HQ11 : Hid (w11.rowIs b8 24 32 (u8v (stN t2))) := Hd (hs.row 0 rfl); have HN8 : Hid (¬ LOwn L1 t2 T2 v4 b8) := Hd (fun hb => by have := HL9.out.lm.lt hb; omega); have HB11 := Hd (thnB HB9.out HBl.out (by rw [hB1]; exact HB9.out.size)); clear hs HBl; clear tk11; have tk12 := Tok.mk 12)
    | (have tx := tk12; clear tx; (with_reducible refine at_l ?_); refine zae rfl 49 (.tmp 2) rfl 1957 _ Ty49 rfl (by kernel_rfl) _ rfl s.F (fun i hi => by rw [zai]; exact (HXr.out _ HB11.out).cell hi) ?_; clear tk12; have tk13 := Tok.mk 13)
    | (have tx := tk13; clear tx; go_at_call 14; refine (zlg B1 L1 800000 t2 s T2 _ v4 HL11.out (HX.out.below HB11.out) HR.out (HP2.out.belowB HPB.out HB11.out) HPB.out).mono ?_; rintro r w13 ⟨t3, T3, v5, rfl, hl, hsm, hst⟩; have HL13 := Hd hl; have HM3 := Hd hsm; have hbs := beside hst HR11.out HN9.out; have hbt := beside hst HQ11.out HN8.out; have HR13 := Hd hbs.1; have HN6b := Hd hbs.2; have HQ13 := Hd hbt.1; have HN8b := Hd hbt.2; have HB13 := Hd (HB11.out.trans (hst.below HL11.out.lm lR)); clear hl hsm hst hbs hbt; clear tk13; have tk14 := Tok.mk 14))
   have HE2 := Hd (zie HM2.out HRu.out HXu.out.sc)
   have HE3 := Hd (zie HM3.out HR.out HX.out.sc)
   refine zeu (l := [_, _, _, _, _, _, _, _, _, _, _, _, _, _, _, _, _, _, _, _, _, _, _, _, _]) (N := 1) (fun q wj => (∃ v, LV wj B1 L1 t3 T3 v (800000 + q * 400000) ∧ ¬ LOwn L1 t3 T3 v b6 ∧ ¬ LOwn L1 t3 T3 v b8) ∧ (wj.rowIs b6 24 32 (u8v (stN t1)) ∧ wj.rowIs b8 24 32 (u8v (stN t2))) ∧ Below B1 w2 wj) [sI (.int .i64 0), sI (.bool true), sI (.bool true), sI (.int .i64 0), sI (.bool true), sI (.bool true), sI (.bool true), sI (rootV (stN t1)), sI (.agg (arr 1957 s.F)), sI (rootV (stN s)), sI (.bool true), sI (.bool true), sI (.bool true), sI (rootV (stN t2)), sI (.agg (arr 1957 u.F)), sI (rootV (stN u)), sI (.bool true), sI (.bool true), sI (.bool true), sI (.pointer (some ⟨L1, 0, none⟩)), sI (rootV (stN t3)), sI (rootV (stN t1)), sI (.bool true), sI (.bool true), sI (.bool true)] [none, none, none, none, none, none, none, none, none, none, none, none, none, none, none, none, none, none, none, none, some 0, none, none, none, none] (by kernel_rfl) (by kernel_rfl) (by kernel_rfl) rfl rfl (fun q wa wb ⟨⟨v, h1, n1, n2⟩, ⟨h2, h4⟩, h3⟩ hb => ⟨⟨v, h1.below hb, n1, n2⟩, ⟨zaj h2 hb h2.lt, zaj h4 hb h4.lt⟩, thnB h3 hb (by rw [hB1]; exact h3.size)⟩) (zkl (Fs := [.int .i64 0, .bool true, .bool true, .int .i64 0, .bool true, .bool true, .bool true, rootV (stN t1), .agg (arr 1957 s.F), rootV (stN s), .bool true, .bool true, .bool true, rootV (stN t2), .agg (arr 1957 u.F), rootV (stN u), .bool true, .bool true, .bool true, .pointer (some ⟨L1, 0, none⟩), rootV (stN t3), rootV (stN t1), .bool true, .bool true, .bool true])) (⟨⟨v5, HL13.out, HN6b.out, HN8b.out⟩, ⟨HR13.out, HQ13.out⟩, HB13.out⟩) ⟨?_, ?_, ?_, ?_, ?_, ?_, ?_, ?_, ?_, ?_, ?_, ?_, ?_, ?_, ?_, ?_, ?_, ?_, ?_, ?_, ?_, ?_, ?_, ?_, ?_, trivial⟩ ?_
   ·exact fun kj wj hj => (zaa _ rfl (.inl rfl) rfl)
   ·exact fun kj wj hj => zfq .i64 0 0 true Ty54 (by simp) rfl rfl (oT rfl) OpK.const
   ·exact fun kj wj hj => (zaa _ rfl (.inl rfl) rfl)
   ·exact fun kj wj hj => zav 48 rfl rfl ((zaa _ rfl (.inl rfl) rfl))
   ·exact fun kj wj hj => zav 48 rfl rfl (zfq .i64 0 0 true Ty54 (by simp) rfl rfl (oT rfl) OpK.const)
   ·exact fun kj wj hj => zcn rfl rfl rfl (oT rfl)
   ·exact fun kj wj hj => (zaa _ rfl (.inl rfl) rfl)
   ·exact fun kj wj hj => zav 52 rfl rfl (zad rfl rfl (oT rfl) (fun w' hb => zd2 hj.2.1.1 (hj.2.1.1).lt Ty24 rfl s24 w' hb))
   ·exact fun kj wj hj => zav 52 rfl rfl (zad rfl rfl (oT rfl) (fun w' hb => zd2 (HXr.out wj hj.2.2) (HXr.out wj hj.2.2).lt Ty49 rfl (by kernel_rfl) w' hb))
   ·exact fun kj wj hj => zav 52 rfl rfl (zby zkq rfl rfl (oT rfl) (fun w' hb => (zhh s w' ((HX.out.below (thnB hj.2.2 hb (by rw [hB1]; exact hj.2.2.size))).more (by rw [hB1]; exact lT hj.2.2.size hb.size)) HR.out (HRf2.out.below (by have h := thnB hj.2.2 hb (by rw [hB1]; exact hj.2.2.size); rw [hB1] at h; exact h))).mono fun r w'' ⟨he, hw⟩ => ⟨_, he, rfl, hw⟩))
   ·exact fun kj wj hj => zav 52 rfl rfl (LiveAwake.zer true rfl rfl (oT rfl) (oT rfl) ⟨fun _ => HE1.out, fun _ => rfl⟩)
   ·exact fun kj wj hj => zcn rfl rfl rfl (oT rfl)
   ·exact fun kj wj hj => (zaa _ rfl (.inl rfl) rfl)
   ·exact fun kj wj hj => zav 58 rfl rfl (zad rfl rfl (oT rfl) (fun w' hb => zd2 hj.2.1.2 (hj.2.1.2).lt Ty24 rfl s24 w' hb))
   ·exact fun kj wj hj => zav 58 rfl rfl (zad rfl rfl (oT rfl) (fun w' hb => zd2 (HUr.out wj hj.2.2) (HUr.out wj hj.2.2).lt Ty49 rfl (by kernel_rfl) w' hb))
   ·exact fun kj wj hj => zav 58 rfl rfl (zby zkq rfl rfl (oT rfl) (fun w' hb => (zhh u w' ((HXu.out.below (thnB hj.2.2 hb (by rw [hB1]; exact hj.2.2.size))).more (by rw [hB1]; exact lT hj.2.2.size hb.size)) HRu.out (HRf2.out.below (by have h := thnB hj.2.2 hb (by rw [hB1]; exact hj.2.2.size); rw [hB1] at h; exact h))).mono fun r w'' ⟨he, hw⟩ => ⟨_, he, rfl, hw⟩))
   ·exact fun kj wj hj => zav 58 rfl rfl (LiveAwake.zer true rfl rfl (oT rfl) (oT rfl) ⟨fun _ => HE2.out, fun _ => rfl⟩)
   ·exact fun kj wj hj => zcn rfl rfl rfl (oT rfl)
   ·exact fun kj wj hj => (zaa _ rfl (.inl rfl) rfl)
   ·exact fun kj wj hj => zav 64 rfl rfl ((zaa _ rfl (.inl rfl) rfl))
   ·exact zm0 64 rfl rfl (zkm zio rfl rfl (oT rfl) (fun wj ⟨⟨v, h1, n1, n2⟩, ⟨h2, h4⟩, h3⟩ => (zdo B1 L1 (800000 + 0 * 400000) t3 T3 _ v h1 (by simp) (HP2.out.belowB HPB.out h3) HPB.out (HPt2.out.below h3 HTB.out) HTB.out).mono fun e w3 ⟨v', he, k1, k2⟩ => ⟨_, he, rfl, ⟨v', k1, (beside k2 h2 n1).2, (beside k2 h4 n2).2⟩, ⟨(beside k2 h2 n1).1, (beside k2 h4 n2).1⟩, h3.trans (k2.below h1.lm lR)⟩))
   ·exact fun kj wj hj => zav 64 rfl rfl (zad rfl rfl (oT rfl) (fun w' hb => zd2 hj.2.1.1 (hj.2.1.1).lt Ty24 rfl s24 w' hb))
   ·exact fun kj wj hj => zav 64 rfl rfl (LiveAwake.zer true rfl rfl (oT rfl) (oT rfl) ⟨fun _ => fun i hi => (HE3.out i hi).trans (HE1.out i hi).symm, fun _ => rfl⟩)
   ·exact fun kj wj hj => zcn rfl rfl rfl (oT rfl)
   ·exact fun kj wj hj => (zaa _ rfl (.inr rfl) rfl)
   ·intro wn hj
    simp only [fin, sI, forall_eq]
    simp only [pcX]
    obtain ⟨_, _, h3⟩ := hj
    rw [hB1] at h3
    have HBe := Hd (thnB HBW.out h3 HBW.out.size)
    clear h3
    go_wp2_with fail
    go_ret
    exact ⟨rfl, HBe.out⟩
end Go.Proofs.YtomilckcgmhfcaaDoor
