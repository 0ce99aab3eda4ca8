/- Lemmas that the proof stands on. -/
import Derived.Test.YtomilckcgmhfcaaDoorGLiveTurns1
namespace Go.Proofs.YtomilckcgmhfcaaDoor
set_option maxRecDepth 40000
set_option maxHeartbeats 64000000
open Go.RowKit
namespace LivePut
theorem zw3 (F G : Nat → Value) (T : Nat → Nat) (j : Nat) : (if 0 ≤ j ∧ j < 0 + 1957 then G (j - 0) else liveF F T j) = liveF G T j := by
 unfold liveF
 by_cases h : j < 1957
 ·rw [if_pos (by omega), if_pos h, Nat.sub_zero]
 ·rw [if_neg (by omega), if_neg h, if_neg h]
structure NLs (s : StV) (n : Nat) : Prop where
 B : s.nB = n
 S : s.nS = n
 P : s.nP = n
 C : s.nC = n
theorem NLs.of {s : StV} {n : Nat} (h : RightF s) (hn : s.nV = n) : NLs s n := ⟨h.nB.trans hn, h.nS.trans hn, h.nP.trans hn, h.nC.trans hn⟩
theorem zls {k : IntKind} {a b c : Value} (ha : a = .int k ((nat a : Nat) : Int)) (hb : b = .int k ((nat b : Nat) : Int)) (h : decide (nat b = nat a) = true) (hc : c = b) : a = c := by
 rw [hc, hb, of_decide_eq_true h]; exact ha
theorem orN : ∀ g c : Bool, false = (g || !c) → g = false ∧ c = true := by decide
theorem allN : ∀ a b c d : Bool, false = (!(a && b && c && d)) → a = true ∧ b = true ∧ c = true ∧ d = true := by decide
abbrev bOf {b c : Bool} (_ : Hid (b = c)) : Bool := b
theorem geB (k n : Nat) (g : Bool) (hg : g = decide (n ≤ k)) (w : World) : (binOp .geq 3 (.int .i64 (k : Int)) (.int .i64 (n : Int))).run Tryd.prog w = .ok (.bool g) w := by
 subst hg
 simp [go_sem]
theorem znc : (List.range 86).all (fun q => match leafAt Tryd.prog 8 66 q with | some l => l == 22 || l == 5 || l == 4 | none => false) = true := by kernel_rfl
theorem zvh {F : Nat → Value} (h : Sc F 66) : ∀ q, q < 86 → (F q).oneCell' = true := fun q hq => by
 obtain ⟨v, e, h1⟩ := h.one znc q hq
 rw [zaq _ _ _ hq] at e
 injection e with e
 rw [e]; exact h1
theorem zrj {F G : Nat → Value} (hF : Sc F 66) (hG : Sc G 66) : ∀ i l, i < 86 → leafAt Tryd.prog 8 66 i = some l → kindsOk Tryd.prog l (F i) (G i) := fun i l hi hl => by
 have h1 := List.all_eq_true.1 znc i (List.mem_range.2 hi)
 rw [hl] at h1
 simp only [Bool.or_eq_true, beq_iff_eq] at h1
 unfold kindsOk
 rcases h1 with (rfl | rfl) | rfl
 ·rw [Ty22]; exact ⟨_, _, (hF.u64 i hl).1, (hG.u64 i hl).1⟩
 ·rw [Ty5]; exact ⟨_, _, (hF.u8 i hl).1, (hG.u8 i hl).1⟩
 ·rw [Ty4]; exact ⟨_, _, hF.bool i hl, hG.bool i hl⟩
section
variable {ops : Array Oper} {B : Nat} {w0 : World} {o : Oper} {lk : Tmp → SF} {ty rt : TypeId}
theorem zhg {P : Program} {xo yo : Operand} (k : IntKind) (x y : Nat) (c : Bool) (hc : c = decide (x = y)) (hg : o.guard = none) (hop : o.op = .binOp .neq ty xo yo rt) (hx : OpK lk xo (.int k (x : Int))) (hy : OpK lk yo (.int k (y : Int))) : opOb P ops B w0 o (sI (.bool (!c))) lk :=
 zbw _ hg fun a w _ hf => by
  have h1 := hx.eval hf (by rw [hop]; simp [Op.operands])
  have h2 := hy.eval hf (by rw [hop]; simp [Op.operands])
  unfold execOp
  rw [hop]
  simp only [h1, h2]
  subst hc
  have e : ((x : Int) == (y : Int)) = decide (x = y) := by rw [Bool.eq_iff_iff, beq_iff_eq, decide_eq_true_eq]; omega
  simp only [eqGuard]
  simp [go_sem]
  rw [bne, e]
theorem zs7 {xo yo : Operand} {F G : Nat → Value} (c : Bool) (hg : o.guard = none) (hop : o.op = .binOp .neq 66 xo yo rt) (hx : OpK lk xo (.agg (arr 86 F))) (hy : OpK lk yo (.agg (arr 86 G))) (hs : Sc F 66 ∧ Sc G 66) (hc : c = true ↔ ∀ i, i < 86 → F i = G i) : opOb Tryd.prog ops B w0 o (sI (.bool (!c))) lk :=
 zbw _ hg fun a w _ hf => zk1 8 86 F G c hop (hx.eval hf (by rw [hop]; simp [Op.operands])) (hy.eval hf (by rw [hop]; simp [Op.operands])) Ty66 rfl (by kernel_rfl) (by omega) (by kernel_rfl) (zrj hs.1 hs.2) hc
end
end LivePut
theorem zpd (L : Nat) (u : StV) (w : World) (hu : StOk w w.heap.size u) (hR : ¬ RightF u) : Calls Tryd.prog 14 #[.pointer (some ⟨L, 0, none⟩), .agg (arr 1957 u.F)] w fun r w' => r = .returned (.int .i64 1) ∧ Below w.heap.size w w' := by
 have HS0 := Hd (HS.nil w)
 have HSt := Hd hu
 have HR := Hd hR
 clear hu hR
 go_enter Tryd.func14, Tryd.ntmps14
 go_wp2_with (first
  | ((with_reducible refine at_l ?_); first
   | (refine zaz rfl 49 _ 3 rfl rfl HS0.out 1957 u.F rfl ?_; intro b3 w1 hb3 hc3 hs; have HS1 := Hd hs; clear hs)
   | (refine zf9 rfl rfl rfl 49 (.tmp 3) rfl 1957 _ Ty49 rfl (by kernel_rfl) ⟨b3, 0, none⟩ rfl u.F (fun i hi => by rw [zai]; exact (HS1.out.row 0 rfl).cell hi) ?_))
  | (go_at_call 16; refine (zef u _ ((HSt.out.below (HS1.out.out (by simp; omega))).more HS1.out.size)).mono ?_; rintro r w2 ⟨b, rfl, hb, hbw⟩; obtain rfl : b = false := (by cases b <;> first | rfl | exact absurd (hb.1 rfl) HR.out); have HB2 := Hd ((HS1.out.below hbw).out (by simp; omega)); clear hb hbw))
 go_ret
 exact ⟨rfl, HB2.out⟩
open LivePut in
theorem zlg (base L h : Nat) (s u : StV) (T : Nat → Nat) (w : World) (v : Nat → TV) (hL : LV w base L s T v h) (hu : StOk w base u) (hR : RightF u) (hp : ShaPkg w) (hpB : 0 < base ∧ 1 < base) :
 Calls Tryd.prog 14 #[.pointer (some ⟨L, 0, none⟩), .agg (arr 1957 u.F)] w fun r w' => ∃ t T' v', r = .returned (.int .i64 0) ∧ LV w' base L t T' v' h ∧ SameS u t ∧ LStep w w' L s T v t T' v' := by
 have HL := Hd hL.lm
 have HLV := Hd hL
 have HU := Hd hu
 have HR := Hd hR
 have HP := Hd hp
 have HPB := Hd hpB
 have HS0 := Hd (HS.nil w)
 have HOne := Hd (zl8 hL.lm.ok)
 obtain ⟨Z, hZ⟩ : ∃ Z : Nat → Value, Z = fun i => z49.getD i undef := ⟨_, rfl⟩
 have HZ := Hd (show ∀ i, i < 1957 → z49[i]? = some (Z i) from fun i hi => by rw [hZ]; exact zgx i (by rw [zc8]; exact hi))
 have hLw : L < w.heap.size := hL.lm.row.lt
 have hbw : base ≤ w.heap.size := hL.lm.bw
 clear hL hu hR hp hpB hZ
 have tk0 := Tok.mk 0
 have tk1 := Tok.mk 1
 go_enter Tryd.func14, Tryd.ntmps14
 go_upto_region 5 with (first
  | ((with_reducible refine at_l ?_); first
   | (refine zaz rfl 49 _ 3 rfl rfl HS0.out 1957 u.F rfl ?_; intro b3 w1 hb3 hc3 hs; have HS1 := Hd hs; clear hs)
   | (refine zac rfl 49 5 rfl rfl HS2.out z49 zi6 1957 Z zc8 HZ.out ?_; intro b5 w3 hb5 hc5 hs; have HS3 := Hd hs; clear hs)
   | (refine zaf rfl 49 (.tmp 5) (.tmp 18) rfl HS3.out 0 rfl s.F rfl rfl (by kernel_rfl) HOne.out ?_; intro w4 hs; have HS4 := Hd hs; clear hs)
   | (refine zln rfl 49 (.tmp 23) (.tmp 21) rfl (HL.out.below (HS5.out.out (by simp; omega))).row 0 1957 t.F rfl rfl (by kernel_rfl) (by omega) HOnT.out (liveF t.F T) (fun j hj => LivePut.zw3 s.F t.F T j) ?_; intro w6 hr6 hg6; have HR6 := Hd hr6; have HG6 := Hd hg6; clear hr6 hg6))
  | (have hx : Tok 0 := (by assumption); clear hx; clear tk0; (with_reducible refine at_l ?_); refine zf9 rfl rfl rfl 49 (.tmp 3) rfl 1957 _ Ty49 rfl (by kernel_rfl) ⟨b3, 0, none⟩ rfl u.F (fun i hi => by rw [zai]; exact (HS1.out.row 0 rfl).cell hi) ?_)
  | (go_at_call 16; refine (zef u _ (((HU.out.more hbw).below (HS1.out.out (by simp; omega))).more HS1.out.size)).mono ?_; rintro r w2 ⟨b, rfl, hb, hbw2⟩; obtain rfl : b = true := hb.2 HR.out; have HS2 := Hd (HS1.out.below hbw2); clear hb hbw2)
  | (have hx := HS2; clear hx; (with_reducible refine at_l ?_); refine zae rfl 49 (.tmp 17) rfl 1957 _ Ty49 rfl (by kernel_rfl) ⟨L, 0, none⟩ rfl s.F (fun i hi => by rw [zai]; exact (HL.out.below (HS2.out.out (by simp; omega))).cell i hi) ?_)
  | (have hx := HS4; clear hx; have hy : Tok 1 := (by assumption); clear hy; (with_reducible refine at_l ?_); refine zae rfl 49 (.tmp 3) rfl 1957 _ Ty49 rfl (by kernel_rfl) ⟨b3, 0, none⟩ rfl u.F (fun i hi => by rw [zai]; exact (HS4.out.row 1 rfl).cell hi) ?_; clear tk1)
  | (go_at_call 17; refine (zjy u _ (((HU.out.more hbw).below (HS4.out.out (by simp; omega))).more HS4.out.size) HR.out.n (HR.out.nB ▸ HR.out.n) (HR.out.nP ▸ HR.out.n) (HR.out.nC ▸ HR.out.n) (HR.out.nS ▸ HR.out.n) (lT HR.out.nH (by omega)) (lT HR.out.nE (by omega))).mono ?_; rintro r w5 ⟨t, rfl, hok, hown, hap, hsame, hb⟩; have HOk := Hd hok; have HOw := Hd (hown.mono HS4.out.size); have HAp := Hd hap; have HSm := Hd hsame; have HS5 := Hd (HS4.out.below hb); have HOnT := Hd (zl8 hok); clear hok hown hap hsame hb))
 have HB5 := Hd (HS5.out.out (by simp; omega))
 have HPU := Hd (HL.out.putS HB5.out HOw.out HAp.out HOk.out HR6.out HG6.out)
 have HX3 : Hid (w6.rowIs b3 49 1957 u.F) := Hd ((HS5.out.row 1 rfl).of_block (HG6.out.block b3 (HS5.out.lt 1 rfl) (fun e => by injection e with e; omega)))
 have HX5 : Hid (w6.rowIs b5 49 1957 s.F) := Hd ((HS5.out.row 0 rfl).of_block (HG6.out.block b5 (HS5.out.lt 0 rfl) (fun e => by injection e with e; omega)))
 have HB6 := Hd (HPU.out.2.below hbw (fun b e => by rw [e]; exact HL.out.baseL))
 have hRt : RightF t := HR.out.same HSm.out
 obtain ⟨n, hn⟩ : ∃ n, t.nV = n := ⟨_, rfl⟩
 obtain ⟨ns, hns⟩ : ∃ ns, s.nV = ns := ⟨_, rfl⟩
 have hnu : u.nV = n := by rw [← hn, HSm.out.nV]
 have hn6 : n ≤ 65536 := by rw [← hn]; exact hRt.n
 have hns6 : ns ≤ 65536 := by rw [← hns]; exact HLV.out.right.n
 have HNT := Hd hn
 have HNS := Hd hns
 have HNU := Hd hnu
 have HRt := Hd hRt
 have h3 : w6.cell? ⟨b3, 721, none⟩ = some (.slice u.aV n u.cV) := (HX3.out.cell (i := 721) (by omega)).trans (congrArg some (by rw [HU.out.f11, HNU.out]))
 have h5 : w6.cell? ⟨b5, 721, none⟩ = some (.slice s.aV ns s.cV) := (HX5.out.cell (i := 721) (by omega)).trans (congrArg some (by rw [HL.out.ok.f11, HNS.out]))
 clear hn hns hnu hRt HS0 HS1 HS2 HS3 HS4 HS5 HOne HOnT HZ HOk HR6 HG6
 by_cases hlt : n < ns
 ·have t0 : decide ((n : Int) < (ns : Int)) = true := decide_eq_true (by omega)
  go_upto_region 6 with fail
  clear t0 h3 h5
  have tk2 := Tok.mk 2
  go_wp2_with (go_at_call 18; clear tk2; refine (zla base L n t (liveF t.F T) T v w6 (HPU.out.1.lb HAp.out T v) hn6 HNT.out (HRt.out.nB.trans HNT.out) (HRt.out.nP.trans HNT.out) (HRt.out.nC.trans HNT.out) (HRt.out.nS.trans HNT.out) (HP.out.belowB HPB.out HB6.out) HPB.out).mono ?_; rintro r w7 ⟨T', v', rfl, hlm, hch, hst, hlim, hD, hH, hnw⟩; have HLVt : Hid (LV w7 base L t T' v' h) := Hd ⟨hlm, by rw [HNT.out]; exact hst, hlim, hD, fun j hj => by rw [hH j hj]; exact Nat.zero_le _, HRt.out⟩; have HB7 := Hd (znb (s := s) (T := T) (v := v) HOw.out HPU.out.2 (hch.mono (fun b _ e => ⟨0, e⟩)) (fun b ⟨j, hj, ho⟩ => .inr (lT HPU.out.2.size (hnw j hj b (.inl ho)))) (fun b ⟨j, hj, ho⟩ => .inr (lT HPU.out.2.size (hnw j hj b (.inr ho))))); clear hlm hch hst hlim hD hH hnw)
  go_ret
  exact ⟨t, T', v', rfl, HLVt.out, HSm.out, HB7.out⟩
 ·have t0 : decide ((n : Int) < (ns : Int)) = false := decide_eq_false (by omega)
  have t0n : decide (n < ns) = false := decide_eq_false (by omega)
  have hge : ns ≤ n := by omega
  have hTJ : TJ base L t T w6 v w6 v (fun j => lvC j s.nV) (lvX s) := { lm := HPU.out.1, tc := Chg.refl _ _, tn := fun _ h => .inl h, tz := fun _ _ => rfl, st := HLV.out.st, lim := HLV.out.lim, D := fun _ _ => rfl, H := fun _ _ => rfl, sha := fun _ => HP.out.belowB HPB.out HB6.out }
  have HTJ := Hd hTJ
  have HUB := Hd HU.out
  have HLs := Hd (fun (wr : World) (v' : Nat → TV) (m : Nat → Nat) (x : Nat → Nat → Nat) (hj : TJ base L t T w6 v wr v' m x) => HL.out.lists (w' := wr) (fun r b h0 h8 hr => by
   have hb := HL.out.role_lt r b hr
   have hLb : b ≠ L := fun e => by
    have := HL.out.apart 0 r b e hr
    omega
   have h1 := hj.tc.block b (Nat.lt_of_lt_of_le hb HPU.out.2.size) (fun ⟨j, hj2, ho⟩ => by
    have := HL.out.apart (j + 8) r b ⟨hj2, ho⟩ hr
    omega)
   exact h1.trans (HPU.out.2.block b hb hLb)))
  have HRw := Hd (fun (wr : World) (v' : Nat → TV) (m : Nat → Nat) (x : Nat → Nat → Nat) (hj : TJ base L t T w6 v wr v' m x) => show wr.rowIs b3 49 1957 u.F ∧ wr.rowIs b5 49 1957 s.F ∧ Below base w wr from
   ⟨hj.tc.row HX3.out (fun ⟨j, hj2, ho⟩ => by have := (HL.out.tm j hj2).lt ho; omega), hj.tc.row HX5.out (fun ⟨j, hj2, ho⟩ => by have := (HL.out.tm j hj2).lt ho; omega), thnB HB6.out (hj.tc.below (B := base) (lT hbw HPU.out.2.size) (fun b hb => HPU.out.1.ge (zfj hb))) lR⟩)
  have Hnu := Hd (LivePut.NLs.of HR.out HNU.out)
  have Hns := Hd (LivePut.NLs.of HLV.out.right HNS.out)
  have Hnt := Hd (LivePut.NLs.of HRt.out HNT.out)
  clear hTJ hlt
  go_wp2_with fail
  go_loopw [36] (fun i wr => ∃ (k : Nat) (v' : Nat → TV) (m : Nat → Nat) (x : Nat → Nat → Nat), i = .int .i64 (k : Int) ∧ k ≤ n ∧ TJ base L t T w6 v wr v' m x ∧ PutJ s t k m x) (fun i _ => n - (intOf i).toNat)
  case atStart => exact ⟨0, v, _, _, rfl, Nat.zero_le _, HTJ.out, PutJ.start s t⟩
  case round =>
   clear HTJ HX3 HX5 HB6 h3 h5 t0 t0n
   obtain ⟨k, v', m, x, rfl, hk, hj, hp⟩ := hrel
   have HJ := Hd hj
   have HPJ := Hd hp
   have hrw := HRw.out wr v' m x hj
   have HX3r := Hd hrw.1
   have HX5r := Hd hrw.2.1
   have HBr := Hd hrw.2.2
   have HOr := Hd (HLs.out wr v' m x hj)
   clear hj hp hrw
   by_cases hkn : k < n
   ·obtain ⟨adU, hAU⟩ : ∃ ad, u.aV = some ad := by
     obtain ⟨ad, e, _⟩ := HUB.out.rV (show 0 < u.nV * 86 by rw [HNU.out]; omega); exact ⟨ad, e⟩
    have HAU := Hd hAU
    clear hAU
    have HUV := Hd (fun (q : Nat) (hq : q < 86) => show wr.cell? ((adU.add (k * 86)).add q) = some (u.V (k * 86 + q)) by
     rw [zb1]; exact (HUB.out.below HBr.out).rV.cell_' HAU.out (show k * 86 + q < u.nV * 86 by rw [HNU.out]; omega))
    have H1V := Hd (show ∀ q, q < 86 → (u.V (k * 86 + q)).oneCell' = true from fun q hq => LivePut.zvh (HUB.out.scV k (by rw [HNU.out]; exact hkn)) q hq)
    go_upto_region 11 with (first
     | ((with_reducible refine at_l ?_); first
      | (refine zab rfl 39 rfl (.pointer (some (adU.add (k * 86)))) ?_ ?_; (· exact zbb rfl rfl rfl (fun w => by rw [HAU.out]; exact zaw (z := 86) w Ty36 (by kernel_rfl) adU hkn) _))
      | (refine zae rfl 66 (.tmp 39) rfl 86 _ Ty66 rfl (by kernel_rfl) _ rfl (fun q => u.V (k * 86 + q)) HUV.out ?_)
      | (refine zac rfl 66 7 rfl rfl (HS.nil wr) (zeroOf Tryd.prog 66) (by kernel_rfl) 86 (fun q => (zeroOf Tryd.prog 66).getD q undef) (by kernel_rfl) (fun i hi => zi0 _ i (by rw [show (zeroOf Tryd.prog 66).size = 86 by kernel_rfl]; exact hi)) ?_; intro b7 w7 hb7 hc7 hs; have HS7 := Hd hs; clear hs)
      | (refine zaf rfl 66 (.tmp 7) (.tmp 40) rfl HS7.out 0 rfl (fun q => u.V (k * 86 + q)) rfl rfl (by kernel_rfl) H1V.out ?_; intro wv hs; have HS8 := Hd hs; clear hs)))
    have HBv := Hd (HS8.out.out (by simp; omega))
    have HX7 := Hd (fun (w' : World) (hb : Below wv.heap.size wv w') => show w'.rowIs b7 66 86 (fun q => u.V (k * 86 + q)) from zaj (HS8.out.row 0 rfl) hb (HS8.out.lt 0 rfl))
    have HX5 := Hd (fun (w' : World) (hb : Below wv.heap.size wv w') => zaj (zaj HX5r.out HBv.out HX5r.out.lt) hb (Nat.lt_of_lt_of_le HX5r.out.lt HBv.out.size))
    have HsV := Hd (show s.F 721 = .slice s.aV ns s.cV by rw [HL.out.ok.f11, HNS.out])
    obtain ⟨adV, hAV⟩ : ∃ ad, k < ns → s.aV = some ad := by
     by_cases h1 : k < ns
     ·obtain ⟨ad, e, _⟩ := HL.out.ok.rV (show 0 < s.nV * 86 by rw [HNS.out]; omega); exact ⟨ad, fun _ => e⟩
     ·exact ⟨⟨0, 0, none⟩, fun h => absurd h h1⟩
    have HAV := Hd hAV
    have HOs := Hd (fun (w' : World) (hb : Below wv.heap.size wv w') (h1 : k < ns) (q : Nat) (hq : q < 86) => show w'.cell? ((adV.add (k * 86)).add q) = some (s.V (k * 86 + q)) by
     rw [zb1]; exact ((HOr.out.all HBv.out).all hb).V.rd.cell_' (HAV.out h1) (show k * 86 + q < s.nV * 86 by rw [HNS.out]; omega))
    have HScV := Hd (fun (h1 : k < ns) => show Sc (fun q => u.V (k * 86 + q)) 66 ∧ Sc (fun q => s.V (k * 86 + q)) 66 from ⟨HUB.out.scV k (by rw [HNU.out]; exact hkn), HL.out.ok.scV k (by rw [HNS.out]; exact h1)⟩)
    obtain ⟨c, hcq⟩ : ∃ c : Bool, c = true ↔ ∀ i, i < 86 → u.V (k * 86 + i) = s.V (k * 86 + i) := by
     by_cases h1 : ∀ i, i < 86 → u.V (k * 86 + i) = s.V (k * 86 + i)
     ·exact ⟨true, fun _ => h1, fun _ => rfl⟩
     ·exact ⟨false, (fun e => by cases e), fun h => absurd h h1⟩
    have HCq := Hd hcq
    obtain ⟨g, hg⟩ : ∃ g, g = decide (ns ≤ k) := ⟨_, rfl⟩
    have HG := Hd hg
    have HK := Hd (show g = false → k < ns from fun e => by rw [e] at hg; have := of_decide_eq_false hg.symm; omega)
    clear hAV hcq hg
    simp only [pcX]
    go_cut [54] from 41 to 54 (fun z wx => ∃ d : Bool, z = .bool d ∧ d = (g || !c) ∧ Below wv.heap.size wv wx)
    case first =>
     cases g
     all_goals
      refine zb3 (B := wv.heap.size) (w0 := wv) [sI (.int .i64 ((k : Nat) : Int)), sI (.pointer (some ⟨b5, 721, none⟩)), sI (.slice (s.aV) (ns) (s.cV)), sI (.int .i64 ((ns : Nat) : Int)), sI (.bool (bOf HG)), sI (.bool (bOf HG)), sI (bif (!bOf HG) then .agg (arr 86 fun q => u.V (k * 86 + q)) else undef), sI (bif (!bOf HG) then .pointer (some ⟨b5, 721, none⟩) else undef), sI (bif (!bOf HG) then .slice (s.aV) (ns) (s.cV) else undef), sI (bif (!bOf HG) then .int .i64 ((k : Nat) : Int) else undef), sI (bif (!bOf HG) then .pointer (some (adV.add (k * 86))) else undef), sI (bif (!bOf HG) then .agg (arr 86 fun q => s.V (k * 86 + q)) else undef), sI (bif (!bOf HG) then .bool (!c) else undef), sI (.bool (bOf HG || !c))] (by kernel_rfl) (by kernel_rfl) rfl lR (Below.refl _ _) ⟨?_, ?_, ?_, ?_, ?_, ?_, ?_, ?_, ?_, ?_, ?_, ?_, ?_, ?_, trivial⟩ ?_
      ·exact (zaa _ rfl (.inl rfl) rfl)
      ·exact zal rfl rfl (oT rfl) (fun w => by simp [go_sem])
      ·exact zad rfl rfl (oT rfl) (fun w' hb => PickDraw.za3 w' _ _ _ _ (((HX5.out w' hb).cell (i := 721) (by omega)).trans (congrArg some HsV.out)) Ty36)
      ·exact zcw Ty36 rfl rfl (oT rfl)
      ·exact za0 rfl rfl rfl (oT rfl) (oT rfl) (fun w => LivePut.geB k ns _ HG.out w)
      ·exact (zaa _ rfl (.inl rfl) rfl)
      ·first | exact za2 46 rfl rfl (by simp [bOf]) | exact zav 46 rfl rfl (zad rfl rfl (oT rfl) (fun w' hb => zax w' b7 0 86 66 _ (fun q => u.V (k * 86 + q)) (fun q hq => by rw [Nat.zero_add]; exact (HX7.out w' hb).cell hq) Ty66 rfl (by kernel_rfl)))
      ·first | exact za2 46 rfl rfl (by simp [bOf]) | exact zav 46 rfl rfl (zal rfl rfl (oT rfl) (fun w => by simp [go_sem]))
      ·first | exact za2 46 rfl rfl (by simp [bOf]) | exact zav 46 rfl rfl (zad rfl rfl (oT rfl) (fun w' hb => PickDraw.za3 w' _ _ _ _ (((HX5.out w' hb).cell (i := 721) (by omega)).trans (congrArg some HsV.out)) Ty36))
      ·first | exact za2 46 rfl rfl (by simp [bOf]) | exact zav 46 rfl rfl ((zaa _ rfl (.inl rfl) rfl))
      ·first | exact za2 46 rfl rfl (by simp [bOf]) | exact zav 46 rfl rfl (zak rfl rfl (oT rfl) (oT rfl) (fun w => by rw [HAV.out (HK.out rfl)]; exact zaw (z := 86) w Ty36 (by kernel_rfl) adV (HK.out rfl)))
      ·first | exact za2 46 rfl rfl (by simp [bOf]) | exact zav 46 rfl rfl (zad rfl rfl (oT rfl) (fun w' hb => zbd w' _ 86 66 _ (fun q => s.V (k * 86 + q)) (fun q hq => HOs.out w' hb (HK.out rfl) q hq) Ty66 rfl (by kernel_rfl)))
      ·first | exact za2 46 rfl rfl (by simp [bOf]) | exact zav 46 rfl rfl (LivePut.zs7 c rfl rfl (oT rfl) (oT rfl) (HScV.out (HK.out rfl)) HCq.out)
      ·first | exact zcn rfl rfl rfl OpK.const | exact zfr rfl rfl rfl (oT rfl)
      ·intro w' hb
       simp only [fin, sI, forall_eq]
       simp only [pcX]
       go_wp2_with fail
       go_meet
       case rel => exact ⟨_, rfl, rfl, hb⟩
    case rest =>
     obtain ⟨d, rfl, hd, hbx⟩ := hcut
     obtain ⟨wq, hwq⟩ : ∃ wq : World, wq = wc := ⟨_, rfl⟩
     subst hwq
     have HBq0 := Hd (HBv.out.trans (hbx.mono HBv.out.size))
     have HJq := Hd (HJ.out.bel HBq0.out)
     clear hbx HX7 HX5 HOs HBv HS8 H1V HUV
     cases d
     ·obtain ⟨hg0, hc0⟩ := orN g c hd
      have hks := HK.out hg0
      have HEl := Hd (show elJ s t 0 k from fun q hq => by rw [HSm.out.V]; exact (HCq.out.1 hc0 q hq).symm)
      have HOq := Hd (HOr.out.all HBq0.out)
      have HSz := Hd (show w.heap.size ≤ wq.heap.size from lT (lT HPU.out.2.size HJ.out.tc.size) HBq0.out.size)
      have HBq := Hd (thnB HBr.out (HBq0.out.mono (lT hbw (lT HPU.out.2.size HJ.out.tc.size))) lR)
      have HX3 := Hd (fun (w' : World) (hb : Below wq.heap.size wq w') => zaj (zaj HX3r.out HBq0.out HX3r.out.lt) hb (Nat.lt_of_lt_of_le HX3r.out.lt HBq0.out.size))
      have HX5 := Hd (fun (w' : World) (hb : Below wq.heap.size wq w') => zaj (zaj HX5r.out HBq0.out HX5r.out.lt) hb (Nat.lt_of_lt_of_le HX5r.out.lt HBq0.out.size))
      clear hg0 hc0 hd HG HCq HK HScV HAV HsV
      clear HX3r HX5r
      obtain ⟨adBu, hABu⟩ : ∃ ad, u.aB = some ad := by
       obtain ⟨ad, e, _⟩ := HUB.out.rB (show 0 < u.nB by rw [Hnu.out.B]; omega); exact ⟨ad, e⟩
      have HABu := Hd hABu
      clear hABu
      have HOuB := Hd (fun (w' : World) (hb : Below wq.heap.size wq w') => show w'.cell? (adBu.add (k * 1)) = some (.int .u64 ((nat (u.Bal k) : Nat) : Int)) by rw [Nat.mul_one]; exact ((((HUB.out.below (HBq.out)).below (hb.mono (lT hbw HSz.out))).rB).cell_' HABu.out (show k < u.nB by rw [Hnu.out.B]; omega)).trans (congrArg some (HUB.out.scB k (by rw [Hnu.out.B]; omega)).1))
      obtain ⟨adSu, hASu⟩ : ∃ ad, u.aS = some ad := by
       obtain ⟨ad, e, _⟩ := HUB.out.rS (show 0 < u.nS by rw [Hnu.out.S]; omega); exact ⟨ad, e⟩
      have HASu := Hd hASu
      clear hASu
      have HOuS := Hd (fun (w' : World) (hb : Below wq.heap.size wq w') => show w'.cell? (adSu.add (k * 1)) = some (.int .u64 ((nat (u.Sco k) : Nat) : Int)) by rw [Nat.mul_one]; exact ((((HUB.out.below (HBq.out)).below (hb.mono (lT hbw HSz.out))).rS).cell_' HASu.out (show k < u.nS by rw [Hnu.out.S]; omega)).trans (congrArg some (HUB.out.scS k (by rw [Hnu.out.S]; omega)).1))
      obtain ⟨adPu, hAPu⟩ : ∃ ad, u.aP = some ad := by
       obtain ⟨ad, e, _⟩ := HUB.out.rP (show 0 < u.nP by rw [Hnu.out.P]; omega); exact ⟨ad, e⟩
      have HAPu := Hd hAPu
      clear hAPu
      have HOuP := Hd (fun (w' : World) (hb : Below wq.heap.size wq w') => show w'.cell? (adPu.add (k * 1)) = some (.int .u8 ((nat (u.Prv k) : Nat) : Int)) by rw [Nat.mul_one]; exact ((((HUB.out.below (HBq.out)).below (hb.mono (lT hbw HSz.out))).rP).cell_' HAPu.out (show k < u.nP by rw [Hnu.out.P]; omega)).trans (congrArg some (HUB.out.scP k (by rw [Hnu.out.P]; omega)).1))
      obtain ⟨adCu, hACu⟩ : ∃ ad, u.aC = some ad := by
       obtain ⟨ad, e, _⟩ := HUB.out.rC (show 0 < u.nC by rw [Hnu.out.C]; omega); exact ⟨ad, e⟩
      have HACu := Hd hACu
      clear hACu
      have HOuC := Hd (fun (w' : World) (hb : Below wq.heap.size wq w') => show w'.cell? (adCu.add (k * 1)) = some (.int .u8 ((nat (u.Cur k) : Nat) : Int)) by rw [Nat.mul_one]; exact ((((HUB.out.below (HBq.out)).below (hb.mono (lT hbw HSz.out))).rC).cell_' HACu.out (show k < u.nC by rw [Hnu.out.C]; omega)).trans (congrArg some (HUB.out.scC k (by rw [Hnu.out.C]; omega)).1))
      have HuF := Hd (show u.F 722 = .slice (some adBu) n u.cB ∧ u.F 1092 = .slice (some adSu) n u.cS ∧ u.F 987 = .slice (some adPu) n u.cP ∧ u.F 988 = .slice (some adCu) n u.cC from ⟨by rw [HUB.out.f12, HABu.out, Hnu.out.B], by rw [HUB.out.f21, HASu.out, Hnu.out.S], by rw [HUB.out.f15, HAPu.out, Hnu.out.P], by rw [HUB.out.f16, HACu.out, Hnu.out.C]⟩)
      obtain ⟨adBs, hABs⟩ : ∃ ad, s.aB = some ad := by
       obtain ⟨ad, e, _⟩ := HL.out.ok.rB (show 0 < s.nB by rw [Hns.out.B]; omega); exact ⟨ad, e⟩
      have HABs := Hd hABs
      clear hABs
      have HOsB := Hd (fun (w' : World) (hb : Below wq.heap.size wq w') => show w'.cell? (adBs.add (k * 1)) = some (.int .u64 ((nat (s.Bal k) : Nat) : Int)) by rw [Nat.mul_one]; exact ((zfk ((HOq.out.all hb).B.rd)).cell_' HABs.out (show k < s.nB by rw [Hns.out.B]; omega)).trans (congrArg some (HL.out.ok.scB k (by rw [Hns.out.B]; omega)).1))
      obtain ⟨adSs, hASs⟩ : ∃ ad, s.aS = some ad := by
       obtain ⟨ad, e, _⟩ := HL.out.ok.rS (show 0 < s.nS by rw [Hns.out.S]; omega); exact ⟨ad, e⟩
      have HASs := Hd hASs
      clear hASs
      have HOsS := Hd (fun (w' : World) (hb : Below wq.heap.size wq w') => show w'.cell? (adSs.add (k * 1)) = some (.int .u64 ((nat (s.Sco k) : Nat) : Int)) by rw [Nat.mul_one]; exact ((zfk ((HOq.out.all hb).S.rd)).cell_' HASs.out (show k < s.nS by rw [Hns.out.S]; omega)).trans (congrArg some (HL.out.ok.scS k (by rw [Hns.out.S]; omega)).1))
      obtain ⟨adPs, hAPs⟩ : ∃ ad, s.aP = some ad := by
       obtain ⟨ad, e, _⟩ := HL.out.ok.rP (show 0 < s.nP by rw [Hns.out.P]; omega); exact ⟨ad, e⟩
      have HAPs := Hd hAPs
      clear hAPs
      have HOsP := Hd (fun (w' : World) (hb : Below wq.heap.size wq w') => show w'.cell? (adPs.add (k * 1)) = some (.int .u8 ((nat (s.Prv k) : Nat) : Int)) by rw [Nat.mul_one]; exact ((zfk ((HOq.out.all hb).P.rd)).cell_' HAPs.out (show k < s.nP by rw [Hns.out.P]; omega)).trans (congrArg some (HL.out.ok.scP k (by rw [Hns.out.P]; omega)).1))
      obtain ⟨adCs, hACs⟩ : ∃ ad, s.aC = some ad := by
       obtain ⟨ad, e, _⟩ := HL.out.ok.rC (show 0 < s.nC by rw [Hns.out.C]; omega); exact ⟨ad, e⟩
      have HACs := Hd hACs
      clear hACs
      have HOsC := Hd (fun (w' : World) (hb : Below wq.heap.size wq w') => show w'.cell? (adCs.add (k * 1)) = some (.int .u8 ((nat (s.Cur k) : Nat) : Int)) by rw [Nat.mul_one]; exact ((zfk ((HOq.out.all hb).C.rd)).cell_' HACs.out (show k < s.nC by rw [Hns.out.C]; omega)).trans (congrArg some (HL.out.ok.scC k (by rw [Hns.out.C]; omega)).1))
      have HsF := Hd (show s.F 722 = .slice (some adBs) ns s.cB ∧ s.F 1092 = .slice (some adSs) ns s.cS ∧ s.F 987 = .slice (some adPs) ns s.cP ∧ s.F 988 = .slice (some adCs) ns s.cC from ⟨by rw [HL.out.ok.f12, HABs.out, Hns.out.B], by rw [HL.out.ok.f21, HASs.out, Hns.out.S], by rw [HL.out.ok.f15, HAPs.out, Hns.out.P], by rw [HL.out.ok.f16, HACs.out, Hns.out.C]⟩)
      obtain ⟨c1, hc1⟩ : ∃ c1 : Bool, c1 = decide (nat (u.Bal k) = nat (s.Bal k)) := ⟨_, rfl⟩
      have HC1 := Hd hc1
      clear hc1
      obtain ⟨c2, hc2⟩ : ∃ c2 : Bool, c2 = decide (nat (u.Sco k) = nat (s.Sco k)) := ⟨_, rfl⟩
      have HC2 := Hd hc2
      clear hc2
      obtain ⟨c3, hc3⟩ : ∃ c3 : Bool, c3 = decide (nat (u.Prv k) = nat (s.Prv k)) := ⟨_, rfl⟩
      have HC3 := Hd hc3
      clear hc3
      obtain ⟨c4, hc4⟩ : ∃ c4 : Bool, c4 = decide (nat (u.Cur k) = nat (s.Cur k)) := ⟨_, rfl⟩
      have HC4 := Hd hc4
      clear hc4
      go_upto_region 13 with fail
      go_cut [107] from 58 to 107 (fun z wy => ∃ d : Bool, z = .bool d ∧ (d = !(c1 && c2 && c3 && c4)) ∧ Below wq.heap.size wq wy)
      case first =>
       have hways : c1 = false ∨ (c1 = true ∧ c2 = false) ∨ (c1 = true ∧ c2 = true ∧ c3 = false) ∨ (c1 = true ∧ c2 = true ∧ c3 = true) := by cases c1 <;> cases c2 <;> cases c3 <;> simp
       rcases hways with rfl | ⟨rfl, rfl⟩ | ⟨rfl, rfl, rfl⟩ | ⟨rfl, rfl, rfl⟩
       all_goals
        refine zb3 (B := wq.heap.size) (w0 := wq) ((sI (.pointer (some ⟨b3, 722, none⟩))) :: (sI (.slice (some adBu) (n) (u.cB))) :: (sI (.int .i64 ((k : Nat) : Int))) :: (sI (.pointer (some (adBu.add (k * 1))))) :: (sI (.int .u64 ((nat (u.Bal k) : Nat) : Int))) :: (sI (.pointer (some ⟨b5, 722, none⟩))) :: (sI (.slice (some adBs) (ns) (s.cB))) :: (sI (.int .i64 ((k : Nat) : Int))) :: (sI (.pointer (some (adBs.add (k * 1))))) :: (sI (.int .u64 ((nat (s.Bal k) : Nat) : Int))) :: (sI (.bool (!bOf HC1))) :: (sI (.bool (!bOf HC1))) :: (sI (bif bOf HC1 then .pointer (some ⟨b3, 1092, none⟩) else undef)) :: (sI (bif bOf HC1 then .slice (some adSu) (n) (u.cS) else undef)) :: (sI (bif bOf HC1 then .int .i64 ((k : Nat) : Int) else undef)) :: (sI (bif bOf HC1 then .pointer (some (adSu.add (k * 1))) else undef)) :: (sI (bif bOf HC1 then .int .u64 ((nat (u.Sco k) : Nat) : Int) else undef)) :: (sI (bif bOf HC1 then .pointer (some ⟨b5, 1092, none⟩) else undef)) :: (sI (bif bOf HC1 then .slice (some adSs) (ns) (s.cS) else undef)) :: (sI (bif bOf HC1 then .int .i64 ((k : Nat) : Int) else undef)) :: (sI (bif bOf HC1 then .pointer (some (adSs.add (k * 1))) else undef)) :: (sI (bif bOf HC1 then .int .u64 ((nat (s.Sco k) : Nat) : Int) else undef)) :: (sI (bif bOf HC1 then .bool (!bOf HC2) else undef)) :: (sI (.bool (!(bOf HC1 && bOf HC2)))) :: (sI (.bool (!(bOf HC1 && bOf HC2)))) :: (sI (bif (bOf HC1 && bOf HC2) then .pointer (some ⟨b3, 987, none⟩) else undef)) :: (sI (bif (bOf HC1 && bOf HC2) then .slice (some adPu) (n) (u.cP) else undef)) :: (sI (bif (bOf HC1 && bOf HC2) then .int .i64 ((k : Nat) : Int) else undef)) :: (sI (bif (bOf HC1 && bOf HC2) then .pointer (some (adPu.add (k * 1))) else undef)) :: (sI (bif (bOf HC1 && bOf HC2) then .int .u8 ((nat (u.Prv k) : Nat) : Int) else undef)) :: (sI (bif (bOf HC1 && bOf HC2) then .pointer (some ⟨b5, 987, none⟩) else undef)) :: (sI (bif (bOf HC1 && bOf HC2) then .slice (some adPs) (ns) (s.cP) else undef)) :: (sI (bif (bOf HC1 && bOf HC2) then .int .i64 ((k : Nat) : Int) else undef)) :: (sI (bif (bOf HC1 && bOf HC2) then .pointer (some (adPs.add (k * 1))) else undef)) :: (sI (bif (bOf HC1 && bOf HC2) then .int .u8 ((nat (s.Prv k) : Nat) : Int) else undef)) :: (sI (bif (bOf HC1 && bOf HC2) then .bool (!bOf HC3) else undef)) :: (sI (.bool (!(bOf HC1 && bOf HC2 && bOf HC3)))) :: (sI (.bool (!(bOf HC1 && bOf HC2 && bOf HC3)))) :: (sI (bif (bOf HC1 && bOf HC2 && bOf HC3) then .pointer (some ⟨b3, 988, none⟩) else undef)) :: (sI (bif (bOf HC1 && bOf HC2 && bOf HC3) then .slice (some adCu) (n) (u.cC) else undef)) :: (sI (bif (bOf HC1 && bOf HC2 && bOf HC3) then .int .i64 ((k : Nat) : Int) else undef)) :: (sI (bif (bOf HC1 && bOf HC2 && bOf HC3) then .pointer (some (adCu.add (k * 1))) else undef)) :: (sI (bif (bOf HC1 && bOf HC2 && bOf HC3) then .int .u8 ((nat (u.Cur k) : Nat) : Int) else undef)) :: (sI (bif (bOf HC1 && bOf HC2 && bOf HC3) then .pointer (some ⟨b5, 988, none⟩) else undef)) :: (sI (bif (bOf HC1 && bOf HC2 && bOf HC3) then .slice (some adCs) (ns) (s.cC) else undef)) :: (sI (bif (bOf HC1 && bOf HC2 && bOf HC3) then .int .i64 ((k : Nat) : Int) else undef)) :: (sI (bif (bOf HC1 && bOf HC2 && bOf HC3) then .pointer (some (adCs.add (k * 1))) else undef)) :: (sI (bif (bOf HC1 && bOf HC2 && bOf HC3) then .int .u8 ((nat (s.Cur k) : Nat) : Int) else undef)) :: (sI (bif (bOf HC1 && bOf HC2 && bOf HC3) then .bool (!bOf HC4) else undef)) :: (sI (.bool (!(bOf HC1 && bOf HC2 && bOf HC3 && bOf HC4)))) :: []) (by kernel_rfl) (by kernel_rfl) rfl lR (Below.refl _ _) ⟨?_, ?_, ?_, ?_, ?_, ?_, ?_, ?_, ?_, ?_, ?_, ?_, ?_, ?_, ?_, ?_, ?_, ?_, ?_, ?_, ?_, ?_, ?_, ?_, ?_, ?_, ?_, ?_, ?_, ?_, ?_, ?_, ?_, ?_, ?_, ?_, ?_, ?_, ?_, ?_, ?_, ?_, ?_, ?_, ?_, ?_, ?_, ?_, ?_, ?_, trivial⟩ ?_
        ·exact zal rfl rfl (oT rfl) (fun w => by simp [go_sem])
        ·exact zad rfl rfl (oT rfl) (fun w' hb => PickDraw.za3 w' _ _ _ _ (((HX3.out w' hb).cell (i := 722) (by omega)).trans (congrArg some HuF.out.1)) Ty37)
        ·exact (zaa _ rfl (.inl rfl) rfl)
        ·exact zak rfl rfl (oT rfl) (oT rfl) (fun w => zaw (z := 1) w Ty37 (by kernel_rfl) adBu hkn)
        ·exact zad rfl rfl (oT rfl) (fun w' hb => zcf w' _ _ .u64 _ (HOuB.out w' hb) Ty22)
        ·exact zal rfl rfl (oT rfl) (fun w => by simp [go_sem])
        ·exact zad rfl rfl (oT rfl) (fun w' hb => PickDraw.za3 w' _ _ _ _ (((HX5.out w' hb).cell (i := 722) (by omega)).trans (congrArg some HsF.out.1)) Ty37)
        ·exact (zaa _ rfl (.inl rfl) rfl)
        ·exact zak rfl rfl (oT rfl) (oT rfl) (fun w => zaw (z := 1) w Ty37 (by kernel_rfl) adBs hks)
        ·exact zad rfl rfl (oT rfl) (fun w' hb => zcf w' _ _ .u64 _ (HOsB.out w' hb) Ty22)
        ·exact LivePut.zhg .u64 _ _ _ HC1.out rfl rfl (oT rfl) (oT rfl)
        ·exact (zaa _ rfl (.inl rfl) rfl)
        ·first | exact za2 69 rfl rfl (by simp [bOf]) | exact zav 69 rfl rfl (zal rfl rfl (oT rfl) (fun w => by simp [go_sem]))
        ·first | exact za2 69 rfl rfl (by simp [bOf]) | exact zav 69 rfl rfl (zad rfl rfl (oT rfl) (fun w' hb => PickDraw.za3 w' _ _ _ _ (((HX3.out w' hb).cell (i := 1092) (by omega)).trans (congrArg some HuF.out.2.1)) Ty37))
        ·first | exact za2 69 rfl rfl (by simp [bOf]) | exact zav 69 rfl rfl ((zaa _ rfl (.inl rfl) rfl))
        ·first | exact za2 69 rfl rfl (by simp [bOf]) | exact zav 69 rfl rfl (zak rfl rfl (oT rfl) (oT rfl) (fun w => zaw (z := 1) w Ty37 (by kernel_rfl) adSu hkn))
        ·first | exact za2 69 rfl rfl (by simp [bOf]) | exact zav 69 rfl rfl (zad rfl rfl (oT rfl) (fun w' hb => zcf w' _ _ .u64 _ (HOuS.out w' hb) Ty22))
        ·first | exact za2 69 rfl rfl (by simp [bOf]) | exact zav 69 rfl rfl (zal rfl rfl (oT rfl) (fun w => by simp [go_sem]))
        ·first | exact za2 69 rfl rfl (by simp [bOf]) | exact zav 69 rfl rfl (zad rfl rfl (oT rfl) (fun w' hb => PickDraw.za3 w' _ _ _ _ (((HX5.out w' hb).cell (i := 1092) (by omega)).trans (congrArg some HsF.out.2.1)) Ty37))
        ·first | exact za2 69 rfl rfl (by simp [bOf]) | exact zav 69 rfl rfl ((zaa _ rfl (.inl rfl) rfl))
        ·first | exact za2 69 rfl rfl (by simp [bOf]) | exact zav 69 rfl rfl (zak rfl rfl (oT rfl) (oT rfl) (fun w => zaw (z := 1) w Ty37 (by kernel_rfl) adSs hks))
        ·first | exact za2 69 rfl rfl (by simp [bOf]) | exact zav 69 rfl rfl (zad rfl rfl (oT rfl) (fun w' hb => zcf w' _ _ .u64 _ (HOsS.out w' hb) Ty22))
        ·first | exact za2 69 rfl rfl (by simp [bOf]) | exact zav 69 rfl rfl (LivePut.zhg .u64 _ _ _ HC2.out rfl rfl (oT rfl) (oT rfl))
        ·first | exact zcn rfl rfl rfl OpK.const | exact zfr rfl rfl rfl (oT rfl)
        ·exact (zaa _ rfl (.inl rfl) rfl)
        ·first | exact za2 82 rfl rfl (by simp [bOf]) | exact zav 82 rfl rfl (zal rfl rfl (oT rfl) (fun w => by simp [go_sem]))
        ·first | exact za2 82 rfl rfl (by simp [bOf]) | exact zav 82 rfl rfl (zad rfl rfl (oT rfl) (fun w' hb => PickDraw.za3 w' _ _ _ _ (((HX3.out w' hb).cell (i := 987) (by omega)).trans (congrArg some HuF.out.2.2.1)) Ty39))
        ·first | exact za2 82 rfl rfl (by simp [bOf]) | exact zav 82 rfl rfl ((zaa _ rfl (.inl rfl) rfl))
        ·first | exact za2 82 rfl rfl (by simp [bOf]) | exact zav 82 rfl rfl (zak rfl rfl (oT rfl) (oT rfl) (fun w => zaw (z := 1) w Ty39 (by kernel_rfl) adPu hkn))
        ·first | exact za2 82 rfl rfl (by simp [bOf]) | exact zav 82 rfl rfl (zad rfl rfl (oT rfl) (fun w' hb => zcf w' _ _ .u8 _ (HOuP.out w' hb) Ty5))
        ·first | exact za2 82 rfl rfl (by simp [bOf]) | exact zav 82 rfl rfl (zal rfl rfl (oT rfl) (fun w => by simp [go_sem]))
        ·first | exact za2 82 rfl rfl (by simp [bOf]) | exact zav 82 rfl rfl (zad rfl rfl (oT rfl) (fun w' hb => PickDraw.za3 w' _ _ _ _ (((HX5.out w' hb).cell (i := 987) (by omega)).trans (congrArg some HsF.out.2.2.1)) Ty39))
        ·first | exact za2 82 rfl rfl (by simp [bOf]) | exact zav 82 rfl rfl ((zaa _ rfl (.inl rfl) rfl))
        ·first | exact za2 82 rfl rfl (by simp [bOf]) | exact zav 82 rfl rfl (zak rfl rfl (oT rfl) (oT rfl) (fun w => zaw (z := 1) w Ty39 (by kernel_rfl) adPs hks))
        ·first | exact za2 82 rfl rfl (by simp [bOf]) | exact zav 82 rfl rfl (zad rfl rfl (oT rfl) (fun w' hb => zcf w' _ _ .u8 _ (HOsP.out w' hb) Ty5))
        ·first | exact za2 82 rfl rfl (by simp [bOf]) | exact zav 82 rfl rfl (LivePut.zhg .u8 _ _ _ HC3.out rfl rfl (oT rfl) (oT rfl))
        ·first | exact zcn rfl rfl rfl OpK.const | exact zfr rfl rfl rfl (oT rfl)
        ·exact (zaa _ rfl (.inl rfl) rfl)
        ·first | exact za2 95 rfl rfl (by simp [bOf]) | exact zav 95 rfl rfl (zal rfl rfl (oT rfl) (fun w => by simp [go_sem]))
        ·first | exact za2 95 rfl rfl (by simp [bOf]) | exact zav 95 rfl rfl (zad rfl rfl (oT rfl) (fun w' hb => PickDraw.za3 w' _ _ _ _ (((HX3.out w' hb).cell (i := 988) (by omega)).trans (congrArg some HuF.out.2.2.2)) Ty39))
        ·first | exact za2 95 rfl rfl (by simp [bOf]) | exact zav 95 rfl rfl ((zaa _ rfl (.inl rfl) rfl))
        ·first | exact za2 95 rfl rfl (by simp [bOf]) | exact zav 95 rfl rfl (zak rfl rfl (oT rfl) (oT rfl) (fun w => zaw (z := 1) w Ty39 (by kernel_rfl) adCu hkn))
        ·first | exact za2 95 rfl rfl (by simp [bOf]) | exact zav 95 rfl rfl (zad rfl rfl (oT rfl) (fun w' hb => zcf w' _ _ .u8 _ (HOuC.out w' hb) Ty5))
        ·first | exact za2 95 rfl rfl (by simp [bOf]) | exact zav 95 rfl rfl (zal rfl rfl (oT rfl) (fun w => by simp [go_sem]))
        ·first | exact za2 95 rfl rfl (by simp [bOf]) | exact zav 95 rfl rfl (zad rfl rfl (oT rfl) (fun w' hb => PickDraw.za3 w' _ _ _ _ (((HX5.out w' hb).cell (i := 988) (by omega)).trans (congrArg some HsF.out.2.2.2)) Ty39))
        ·first | exact za2 95 rfl rfl (by simp [bOf]) | exact zav 95 rfl rfl ((zaa _ rfl (.inl rfl) rfl))
        ·first | exact za2 95 rfl rfl (by simp [bOf]) | exact zav 95 rfl rfl (zak rfl rfl (oT rfl) (oT rfl) (fun w => zaw (z := 1) w Ty39 (by kernel_rfl) adCs hks))
        ·first | exact za2 95 rfl rfl (by simp [bOf]) | exact zav 95 rfl rfl (zad rfl rfl (oT rfl) (fun w' hb => zcf w' _ _ .u8 _ (HOsC.out w' hb) Ty5))
        ·first | exact za2 95 rfl rfl (by simp [bOf]) | exact zav 95 rfl rfl (LivePut.zhg .u8 _ _ _ HC4.out rfl rfl (oT rfl) (oT rfl))
        ·first | exact zcn rfl rfl rfl OpK.const | exact zfr rfl rfl rfl (oT rfl)
        ·intro w' hb
         simp only [fin, sI, forall_eq]
         simp only [pcX]
         go_wp2_with fail
         go_meet
         case rel => exact ⟨_, rfl, rfl, hb⟩
      case rest =>
       obtain ⟨d, rfl, hd, hby⟩ := hcut
       have HJy := Hd (HJq.out.bel hby)
       clear hby HJq HX3 HX5
       clear HOuB HOuS HOuP HOuC HOsB HOsS HOsP HOsC HuF HsF
       cases d
       ·have hall := allN c1 c2 c3 c4 hd
        have HNext := Hd (HPJ.out.skip (by rw [HNS.out]; exact hks) (five HEl.out (LivePut.zls (HL.out.ok.scB k (by rw [Hns.out.B]; exact hks)).1 (HUB.out.scB k (by rw [Hnu.out.B]; exact hkn)).1 (HC1.out ▸ hall.1) (congrFun HSm.out.Bal k)) (LivePut.zls (HL.out.ok.scP k (by rw [Hns.out.P]; exact hks)).1 (HUB.out.scP k (by rw [Hnu.out.P]; exact hkn)).1 (HC3.out ▸ hall.2.2.1) (congrFun HSm.out.Prv k)) (LivePut.zls (HL.out.ok.scC k (by rw [Hns.out.C]; exact hks)).1 (HUB.out.scC k (by rw [Hnu.out.C]; exact hkn)).1 (HC4.out ▸ hall.2.2.2) (congrFun HSm.out.Cur k)) (LivePut.zls (HL.out.ok.scS k (by rw [Hns.out.S]; exact hks)).1 (HUB.out.scS k (by rw [Hnu.out.S]; exact hkn)).1 (HC2.out ▸ hall.2.1) (congrFun HSm.out.Sco k))))
        clear HC1 HC2 HC3 HC4 hd hall
        go_wp2_with fail
        go_roundw
        case rel => exact ⟨k + 1, v', m, x, by go_num, by omega, HJy.out, HNext.out⟩
        case measure => simp [intOf]; omega
       ·have HNext := Hd (HPJ.out.touch false (fun _ => ⟨by rw [HNS.out]; exact hks, HEl.out⟩))
        clear HC1 HC2 HC3 HC4 hd
        go_wp2_with (go_at_call 41; refine (ziy base L n k t T _ v' m x HJy.out.again hkn hn6 HNT.out Hnt.out.B Hnt.out.P Hnt.out.C Hnt.out.S (fun j hj _ => HPJ.out.ge j hj) HPB.out).mono ?_; rintro r w9 ⟨v9, rfl, hj9⟩; have HJ9 := Hd (HJy.out.trans hj9); clear hj9)
        go_roundw
        case rel => exact ⟨k + 1, v9, _, _, by go_num, by omega, HJ9.out, HNext.out⟩
        case measure => simp [intOf]; omega
     ·have HNext := Hd (HPJ.out.touch true (fun h => by cases h))
      clear hd HG HCq HK
      go_wp2_with (go_at_call 41; refine (zj4 base L n k t T _ v' m x HJq.out.again hkn hn6 HNT.out Hnt.out.B Hnt.out.P Hnt.out.C Hnt.out.S HPJ.out.ge HPB.out).mono ?_; rintro r w9 ⟨v9, rfl, hj9⟩; have HJ9 := Hd (HJq.out.trans hj9); clear hj9)
      go_roundw
      case rel => exact ⟨k + 1, v9, _, _, by go_num, by omega, HJ9.out, HNext.out⟩
      case measure => simp [intOf]; omega
   ·obtain rfl : n = k := by omega
    go_wp2_with fail
    go_ret
    have hd := PutJ.done (by rw [HNT.out]; exact HPJ.out) (by rw [HNS.out, HNT.out]; exact hge) ⟨HLV.out.right.nB, HLV.out.right.nP, HLV.out.right.nC, HLV.out.right.nS⟩ ⟨HRt.out.nB, HRt.out.nP, HRt.out.nC, HRt.out.nS⟩
    exact ⟨t, T, v', rfl, ⟨HJ.out.lm, fun j hj => by rw [← hd.1 j hj]; exact (HJ.out.st j hj).x_cong (fun i hi => hd.2 j hj i (by rw [← hd.1 j hj]; exact hi)), HJ.out.lim, fun j hj => (HJ.out.D j hj).trans (HLV.out.D j hj), fun j hj => by rw [HJ.out.H j hj]; exact HLV.out.H j hj, HRt.out⟩, HSm.out, znb HOw.out HPU.out.2 (HJ.out.tc.mono (fun b _ hb => zfj hb)) (fun b hb => by
     rcases HJ.out.tn b hb with h1 | h1
     ·exact .inl (zfj h1)
     ·exact .inr (lT HPU.out.2.size h1)) (fun b ⟨j, hj, hz⟩ => .inl ⟨j, hj, by rw [← HJ.out.tz j hj]; exact hz⟩)⟩
end Go.Proofs.YtomilckcgmhfcaaDoor
