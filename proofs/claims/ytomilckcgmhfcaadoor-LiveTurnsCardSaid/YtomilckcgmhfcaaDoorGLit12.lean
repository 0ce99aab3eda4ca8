/- Lemmas that the proof stands on. -/
import Derived.Test.YtomilckcgmhfcaaDoorGLit11
namespace Go.Proofs.YtomilckcgmhfcaaDoor
set_option maxRecDepth 40000
set_option maxHeartbeats 64000000
open Go.RowKit
theorem HS.behind {w0 w1 w : World} {rows : List RowSpec} (hb : Below w0.heap.size w0 w1) (h : HS w1 w rows) : HS w0 w rows :=
 ⟨h.os.trans hb.os, h.tape.trans hb.tape, h.output.trans hb.output, lT hb.size h.size, fun k hk hr => (h.block k (Nat.lt_of_lt_of_le hk hb.size) hr).trans (hb.block k hk), h.has, h.apart⟩
theorem HS.lowB {w0 w w' : World} {rows : List RowSpec} (h : HS w0 w rows) (hb : Below w0.heap.size w w') (hr : ∀ r ∈ rows, r.b < w0.heap.size) : HS w0 w' rows :=
 ⟨hb.os.trans h.os, hb.tape.trans h.tape, hb.output.trans h.output, lT h.size hb.size, fun k hk hr' => (hb.block k hk).trans (h.block k hk hr'),
  fun r hr' => zaj (h.has r hr') hb (hr r hr'), h.apart⟩
theorem zr7 {A : Option Addr} {n c : Nat} : ∀ i, i < 2 → (hashF A n c i).oneCell' = true := fun i _ => by
 unfold hashF; split <;> rfl
theorem zos (A : Option Addr) (n c : Nat) : Tryd.prog.built 90 [(0, .slice A n c)] = some (arr 2 (hashF A n c)) := by kernel_rfl
theorem zcp : (Tryd.prog.info? 90).bind (·.zero) = some (.agg (arr 2 (hashF none 0 0))) := by kernel_rfl
theorem zd0 (B base g n : Nat) (x : Nat → Nat) (w : World) (hH : HashIs w base g n x) (hBb : B ≤ base) (hBg : B ≤ g) (hbw : base ≤ w.heap.size) (hn : n ≤ 1099511627776) (m cb : Nat) (Ab : Option Addr) (y : Nat → Nat) (hy : Rd w w.heap.size Ab m (u8v y)) (hyl : ∀ i, y i < 256) (hmc : m ≤ cb) (hm1 : 1 ≤ m) (hm : m ≤ 1099511627776) (hp : ShaPkg w) (hpB : 0 < B ∧ 1 < B) :
 Calls Tryd.prog 56 #[.pointer (some ⟨g, 0, none⟩), .slice Ab m cb] w fun e w' => e = .returned (.tuple #[]) ∧ HashIs w' base g (n + 1) (catN (n * 32) x (treeN (dep (nch m)) (nch m) (padN m y))) ∧ Below B w w' := by
 obtain ⟨R, hR⟩ : ∃ R, R = treeN (dep (nch m)) (nch m) (padN m y) := ⟨_, rfl⟩
 rw [← hR]
 obtain ⟨N, hN⟩ : ∃ N, N = nch m := ⟨_, rfl⟩
 have hN1 : 1 ≤ N ∧ N ≤ 1099511627776 := by rw [hN]; unfold nch; omega
 have HRe := Hd (show rootV (treeN (dep N) N (padN m y)) = rootV R by rw [hR, hN])
 have HNe := Hd hN
 obtain ⟨A, c, hr, ho, hne⟩ := hH
 have HO := Hd ho
 have HNe := Hd hne
 have HP := Hd hp
 have HY := Hd hy
 have HYl := Hd hyl
 have hgl := hr.lt
 have hBw : B ≤ w.heap.size := lT hBb hbw
 have HG := Hd hr
 have hpl := hp.lt
 have HPk := Hd (zgc m cb Ab y w hy hmc (by omega))
 rw [← hN] at HPk
 clear hr ho hne hp hy hyl hR hN
 go_enter Tryd.func56, Tryd.ntmps56
 go_wp2_with (first
  | (go_at_call 62; refine HPk.out.mono ?_; rintro e w1 ⟨A8, c8, rfl, ho8, hb⟩; have HO8 := Hd ho8; have HB1 := Hd hb; have HG1 := Hd ((HS.nil w1).take (zaj HG.out hb hgl) (fun r hr => by cases hr)); have hsz1 := hb.size; clear ho8 hb HPk)
  | (refine zbx rfl 90 #[(0, .tmp 8)] rfl [(0, .slice A8 N c8)] rfl _ (zos A8 N c8) ?_)
  | (refine zac rfl 90 4 rfl rfl HG1.out _ zcp 2 (hashF none 0 0) (zam _ _) (fun i hi => zaq _ _ i hi) ?_; intro b4 w2 hb4 hc4 hs; have HS2 := Hd hs; clear hs)
  | (refine zaf rfl 90 (.tmp 4) (.tmp 9) rfl HS2.out 0 rfl (hashF A8 N c8) rfl rfl (by kernel_rfl) zr7 ?_; intro w3 hs; have HS3 := Hd hs; have hsz3 := hs.size; clear hs)
  | (go_at_call 40; refine (zc2 w.heap.size w.heap.size b4 N (padN m y) _ ⟨A8, c8, HS3.out.row 0 rfl, HO8.out.hs HS3.out (fun ad e => by have h2 := HO8.out.base_le ad e; simp; omega), fun ad e => by have h2 := HO8.out.base_le ad e; omega⟩ (za6 HYl.out) lR (by omega) (by omega) hN1.1 hN1.2 ((HP.out.below HB1.out).belowB hpB (HS3.out.old (by omega) (by simp; omega))) hpl).mono ?_; rintro e w4 ⟨rfl, hb⟩; rw [HRe.out]; have HS4 := Hd (((HS3.out.behind HB1.out).drop (show w.heap.size ≤ b4 by omega)).lowB hb (by simp; omega)); clear hb)
  | (refine zac rfl 24 5 rfl rfl HS4.out _ z24 32 (u8v fun _ => 0) n24 f24 ?_; intro b5 w5 hb5 hc5 hs; have HS5 := Hd hs; clear hs)
  | (refine zaf rfl 24 (.tmp 5) (.tmp 12) rfl HS5.out 0 rfl (u8v R) rfl rfl (by kernel_rfl) (fun _ _ => rfl) ?_; intro wa hs; have HSa := Hd hs; clear hs))
 have hA : HS w wa [⟨b5, 24, 32, u8v R⟩, ⟨g, 90, 2, hashF A n c⟩] := HSa.out
 have HA := Hd hA
 have hsz := hA.size
 have HOa := Hd (HO.out.hs hA (fun ad e => by have := HNe.out ad e; have h2 := (HO.out.base_le ad e).2; simp; omega))
 have HWa := Hd (hA.old hBw (by simp; omega))
 clear hA HS2 HS3 HS4 HS5 HSa HB1 HG1 HO8 HRe
 have hA : True := trivial
 refine zcu (n := 11) (by kernel_rfl) (by kernel_rfl) ?_
 have HA2 := Hd HA.out.drew
 have HOa2 : Hid (OwnZ wa.drew base 24 32 A n c (u8v x)) := Hd HOa.out
 have HWa2 : Hid (Below B w wa.drew) := Hd ⟨HWa.out.os, HWa.out.tape, HWa.out.output, HWa.out.size, HWa.out.block⟩
 have hsz2 : w.heap.size ≤ wa.drew.heap.size := hsz
 clear HA HOa HWa hsz
 have HA := HA2
 have HOa := HOa2
 have HWa := HWa2
 have hsz := hsz2
 clear HA2 HOa2 HWa2 hsz2
 generalize wa.drew = wv at HA HOa HWa hsz ⊢
 refine zas (i := 0) (.pointer (some ⟨g, 0, none⟩)) rfl (by kernel_rfl) (by kernel_rfl) (by kernel_rfl) rfl (fun _ _ _ h => h) (zce (.inl rfl) rfl) ?_
 refine zas (i := 1) (.pointer (some ⟨g, 0, none⟩)) rfl (by kernel_rfl) (by kernel_rfl) (by kernel_rfl) rfl (fun _ _ _ h => h) (zce (.inl rfl) rfl) ?_
 refine zas (i := 2) (.pointer (some ⟨g, 0, none⟩)) rfl (by kernel_rfl) (by kernel_rfl) (by kernel_rfl) rfl (fun _ _ _ h => h) (zcx rfl rfl) ?_
 refine zas (i := 3) (.pointer (some ⟨g, 0, none⟩)) rfl (by kernel_rfl) (by kernel_rfl) (by kernel_rfl) rfl (fun _ _ _ h => h) (zbh rfl rfl (fun w => by simp [go_sem])) ?_
 simp only [pcX]
 refine zay (i := 4) (j := 5) rfl rfl (by kernel_rfl) rfl rfl (fun K hK => ?_) (fun K hK => ?_)
 refine zbr (.slice A n c) (zcr rfl rfl (zdt _ _ wv ((HA.out.row 1 rfl).cell (i := 0) (by show 0 < 2; omega)))) ?_
 refine hK _ _ ?_
 clear hK
 simp only [pcX]
 refine zah (i := 5) rfl (by kernel_rfl) rfl (fun K hK => ?_)
 refine zbr (rootV R) (zc1 (r := R) rfl rfl wv (HA.out.row 0 rfl)) ?_
 refine hK _ _ ?_
 clear hK
 simp only [pcX]
 refine zah (i := 6) rfl (by kernel_rfl) rfl (fun K hK => ?_)
 refine zci Ty32 s24 (by omega) (by omega) z24 _ rfl (u8v R) rfl (HS.nil wv) ?_
 intro b21 wl hb21 _ hl
 have HL := Hd hl
 clear hl
 refine hK _ _ ?_
 clear hK
 simp only [pcX]
 rotate_left
 refine zbr (rootV R) (zc1 (r := R) rfl rfl wv (HA.out.row 0 rfl)) ?_
 refine hK _ _ ?_
 clear hK
 simp only [pcX]
 refine zay (i := 4) (j := 6) rfl rfl (by kernel_rfl) rfl rfl (fun K hK => ?_) (fun K hK => ?_)
 refine zbr (.slice A n c) (zcr rfl rfl (zdt _ _ wv ((HA.out.row 1 rfl).cell (i := 0) (by show 0 < 2; omega)))) ?_
 refine hK _ _ ?_
 clear hK
 simp only [pcX]
 refine zah (i := 6) rfl (by kernel_rfl) rfl (fun K hK => ?_)
 refine zci Ty32 s24 (by omega) (by omega) z24 _ rfl (u8v R) rfl (HS.nil wv) ?_
 intro b21 wl hb21 _ hl
 have HL := Hd hl
 clear hl
 refine hK _ _ ?_
 clear hK
 simp only [pcX]
 rotate_left
 refine zci Ty32 s24 (by omega) (by omega) z24 _ rfl (u8v R) rfl (HS.nil wv) ?_
 intro b21 wl hb21 _ hl
 have HL := Hd hl
 clear hl
 refine hK _ _ ?_
 clear hK
 simp only [pcX]
 refine zah (i := 4) rfl (by kernel_rfl) rfl (fun K hK => ?_)
 refine zbr (.slice A n c) (zcr rfl rfl (zdt _ _ wl ((zaj (HA.out.row 1 rfl) (HL.out.out (by simp; omega)) (HA.out.row 1 rfl).lt).cell (i := 0) (by show 0 < 2; omega)))) ?_
 refine hK _ _ ?_
 clear hK
 simp only [pcX]
 all_goals
  have hwl := HL.out
  have hb := hwl.out (by simp; omega)
  have ho' := HOa.out.all hb
  have hr21 := Rd.of_row (hwl.row 0 rfl) lR (hwl.lt 0 rfl)
  have hbw' : base ≤ wl.heap.size := lT hbw (lT hsz hb.size)
  have hwb := HWa.out.trans (hb.mono (lT hBw hsz))
  have hrg : wl.rowIs g 90 2 (hashF A n c) := zaj (HA.out.row 1 rfl) hb (HA.out.row 1 rfl).lt
  refine zah (i := 7) rfl (by kernel_rfl) rfl (fun K hK => ?_)
  refine zdy wl (.tmp 18) (.tmp 20) 32 base i24 Ty32 (by rfl) (by omega) rfl (n + 1) (u8v (catN (n * 32) x R)) rfl rfl ho' hr21 (fun _ _ => rfl) rfl zjs ⟨by omega, by omega⟩ hbw' ?_
  intro A22 c22 w22 ho22 hg22 ha22
  have hrg2 := hrg.of_block (hg22.block g hrg.lt (fun e => by
   cases A with
   | none => cases e
   | some ad => injection e with e; exact HNe.out ad rfl e.symm))
  have hw22 := za4 hwb hg22 (lT hBb hbw') (fun ad e => lT hBb (HO.out.base_le ad e).1)
  have hne22 : ∀ ad, A22 = some ad → ad.block ≠ g := fun ad e => by
   rcases ha22 ad e with h | h
   ·cases A with
    | none => cases h
    | some ad' => injection h with h; rw [h]; exact HNe.out ad' rfl
   ·have := hrg.lt; omega
  have HO22 := Hd ho22
  clear ho' hbw' hwb hrg hg22 ha22 ho22 hb hr21 hwl
  refine hK _ _ ?_
  clear hK
  simp only [pcX]
  refine zah (i := 8) rfl (by kernel_rfl) rfl (fun K hK => ?_)
  refine zbr (.pointer (some ⟨g, 0, none⟩)) (zcx rfl rfl _) ?_
  refine hK _ _ ?_
  clear hK
  simp only [pcX]
  refine zah (i := 9) rfl (by kernel_rfl) rfl (fun K hK => ?_)
  refine zbr (.pointer (some ⟨g, 0, none⟩)) (zbh rfl rfl (fun w => by simp [go_sem]) _) ?_
  refine hK _ _ ?_
  clear hK
  simp only [pcX]
  refine zah (i := 10) rfl (by kernel_rfl) rfl (fun K hK => ?_)
  refine zdf rfl rfl (v := .slice A22 (n + 1) c22) rfl rfl (zjt ⟨g, 0, none⟩ A22 (n + 1) c22 _ w22 (hrg2.cell (i := 0) (by show 0 < 2; omega)) (hrg2.frozen 0)) ?_
  refine hK _ _ (wpAny_done (by kernel_rfl) ?_ _)
  clear hK
  have hg := zbv (World.grownBy.refl w22 (some g)) (.inl rfl) (.slice A22 (n + 1) c22) (p := ⟨g, 0, none⟩)
  have hr3 := (hrg2.set 0 (.slice A22 (n + 1) c22)).congr (g := hashF A22 (n + 1) c22) (fun i hi => by
   by_cases e : i = 0
   ·subst e; rfl
   ·show (if i = 0 then _ else hashF A n c i) = hashF A22 (n + 1) c22 i
    rw [if_neg e]; unfold hashF; rw [if_neg e, if_neg e])
  have ho3 := HO22.out.kept hg (fun ad e h => by injection h with h; exact hne22 ad e h)
  have hw3 := hw22.grown hg (lT hBw hw22.size) (fun k hk => by injection hk with hk; omega)
  go_wp2_with fail
  go_end0
  exact ⟨rfl, ⟨A22, c22, hr3, ho3, hne22⟩, hw3⟩
theorem zot (n c l : Nat) (A : Option Addr) (x : Nat → Nat) (w : World) (hb : Rd w w.heap.size A (n * 32) (u8v x)) (hx : ∀ i, x i < 256) (hnc : n ≤ c) (hl : l ≤ 1099511627776) (hnl : n ≤ l) (hp : RefPkg w) :
 Calls Tryd.prog 90 #[.slice A n c, .int .i64 (l : Int)] w fun e w' => e = .returned (.tuple #[rootV (treeN (dep l) n x), .int .i64 0]) ∧ Below w.heap.size w w' := by
 have HP := Hd hp
 have HX := Hd hb
 have HXl := Hd hx
 have HS0 := Hd (HS.nil w)
 have hd40 : dep l ≤ 40 := zd4 (k := 40) (by omega)
 clear hb hx hp
 have tok1 := Tok.mk 1
 go_enter Tryd.func90, Tryd.ntmps90
 go_wp2_with (first
  | (refine zac rfl 24 4 rfl rfl HS0.out _ z24 32 (u8v fun _ => 0) n24 f24 ?_; intro b6 w6 hb6 hc6 hs6; have HS6 := Hd hs6; clear hs6)
  | (go_at_call 100; refine (zp2 l hl _).mono ?_; rintro e w7 ⟨rfl, hw7⟩; subst hw7)
  | (go_at_call 101; refine (zp4 (dep l) hd40 _ (HP.out.below (HS6.out.out (by simp; omega)))).mono ?_; rintro e w8 ⟨Z, cz, rfl, hz, hb8⟩; have HZ := Hd hz; have HS8 := Hd (HS6.out.below hb8); clear hz hb8)
  | (go_at_call 99; refine (zr1 (dep l) n c A x (dep l + 1) cz Z _ (by omega) hd40 hnc ((HX.out.below (HS8.out.out (by simp; omega))).more HS8.out.size) HXl.out HZ.out.rd (by omega) (HP.out.below (HS8.out.out (by simp; omega)))).mono ?_; rintro e w9 ⟨rfl, hb9⟩; have HS9 := Hd (HS8.out.below hb9); clear hb9)
  | (refine zaf rfl 24 (.tmp 4) (.tmp 24) rfl HS9.out 0 rfl (u8v (treeN (dep l) n x)) rfl rfl (by kernel_rfl) (fun _ _ => rfl) ?_; intro wy hs; have HY := Hd hs; clear hs))
 exact zb4 rfl (HY.out.row 0 rfl) _ _ rfl rfl Ty24 rfl s24 rfl ⟨rfl, HY.out.out (by simp; omega)⟩
theorem zbt (n c l : Nat) (A : Option Addr) (x : Nat → Nat) (w : World) (hb : Rd w w.heap.size A (n * 32) (u8v x)) (hx : ∀ i, x i < 256) (hnc : n ≤ c) (hl : l ≤ 1099511627776) (hnl : n ≤ l) (hp : RefPkg w) :
 Calls Tryd.prog 70 #[.slice A n c, .int .i64 (l : Int)] w fun e w' => e = .returned (rootV (treeN (dep l) n x)) ∧ Below w.heap.size w w' := by
 have HP := Hd hp
 have HX := Hd hb
 have HXl := Hd hx
 have HS0 := Hd (HS.nil w)
 clear hb hx hp
 go_enter Tryd.func70, Tryd.ntmps70
 go_wp2_with (first
  | (refine zac rfl 24 4 rfl rfl HS0.out _ z24 32 (u8v fun _ => 0) n24 f24 ?_; intro b4 w4 hb4 hc4 hs4; have HS4 := Hd hs4; clear hs4)
  | (go_at_call 90; refine (zot n c l A x _ ((HX.out.below (HS4.out.out (by simp; omega))).more HS4.out.size) HXl.out hnc hl hnl (HP.out.below (HS4.out.out (by simp; omega)))).mono ?_; rintro e w5 ⟨rfl, hb5⟩; have HS5 := Hd (HS4.out.below hb5); clear hb5)
  | (refine zac rfl 24 5 rfl rfl HS5.out _ z24 32 (u8v fun _ => 0) n24 f24 ?_; intro b6 w6 hb6 hc6 hs6; have HS6 := Hd hs6; clear hs6)
  | (refine zaf rfl 24 (.tmp 5) (.tmp 11) rfl HS6.out 0 rfl (u8v (treeN (dep l) n x)) rfl rfl (by kernel_rfl) (fun _ _ => rfl) ?_; intro w7 hs; have HS7 := Hd hs; clear hs)
  | (refine zae rfl 24 _ rfl 32 _ Ty24 rfl s24 ⟨b6, 0, none⟩ rfl (u8v (treeN (dep l) n x)) (fun i hi => by rw [zai]; exact HS7.out.cell 0 i rfl hi) ?_)
  | (refine zaf rfl 24 (.tmp 4) (.tmp 13) rfl HS7.out 1 rfl (u8v (treeN (dep l) n x)) rfl rfl (by kernel_rfl) (fun _ _ => rfl) ?_; intro wy hs; have HY := Hd hs; clear hs))
 exact za5 rfl (HY.out.row 1 rfl) _ rfl Ty24 rfl s24 rfl ⟨rfl, HY.out.out (by simp; omega)⟩
def byF (F : Nat → Value) (o : Nat) : Nat → Nat := fun q => nat (F (o + q)) % 256
theorem zbm (F : Nat → Value) (o : Nat) : ∀ i, byF F o i < 256 := fun _ => Nat.mod_lt _ (by omega)
theorem zwa {F : Nat → Value} (hF : Sc F 49) (o q : Nat) (hl : leafAt Tryd.prog 8 49 (o + q) = some 5) : F (o + q) = u8v (byF F o) q := by
 have h2 := hF.u8 _ hl
 show _ = Value.int .u8 ((nat (F (o + q)) % 256 : Nat) : Int)
 rw [Nat.mod_eq_of_lt h2.2]
 exact h2.1
theorem zb6 {F : Nat → Value} {T : TypeId} (hF : Sc F T) (o q : Nat) (hl : leafAt Tryd.prog 8 T (o + q) = some 5) : F (o + q) = u8v (byF F o) q := by
 have h2 := hF.u8 _ hl
 show _ = Value.int .u8 ((nat (F (o + q)) % 256 : Nat) : Int)
 rw [Nat.mod_eq_of_lt h2.2]
 exact h2.1
namespace SignMsgRef
end SignMsgRef
theorem at_l {P : Program} {ops : Array Oper} {Q : Exit → Act → World → Prop} {l : List Oper} {a : Act} {w : World} (h : wpList P ops Q l a w) : wpList P ops Q l a w := h
def flagN (b : Bool) : Nat → Nat := fun q => if q = 0 then (if b then 1 else 0) else 0
theorem zl9 (b : Bool) : ∀ i, flagN b i < 256 := fun i => by unfold flagN; split <;> (try split) <;> omega
theorem zou {P : Program} (w : World) (ad : Addr) (ty : TypeId) (v : Value) (h : w.cell? ad = some v) (hu : P.underlying ty = some .bool) : (Instr.loadAt ty (.pointer (some ad))).run P w = .ok v w := by
 simp only [Instr.loadAt, Instr.sureAddr, Sem.run_bind, Sem.run_pure, Result.andThen]
 have hagg : (isAgg ty).run P w = .ok false w := by
  unfold isAgg
  simp [run_underlying hu, Sem.run_bind]
 simp [hagg, go_sem, h]
theorem zkx {P : Program} {w : World} {o : Oper} {a : Act} {ty : TypeId} {x : Operand} {ad : Addr} {v : Value} (ho : o.op = .load ty x) (hx : a.eval x = .pointer (some ad)) (hu : P.underlying ty = some .bool) (h : w.cell? ad = some v) : (execOp a.eval o).run P w = .ok (.value v) w := by
 unfold execOp
 rw [ho]
 simp only [hx]
 simp [zou w ad ty v h hu]
theorem zqg (B base g n : Nat) (b : Bool) (x : Nat → Nat) (w : World) (hH : HashIs w base g n x) (hBb : B ≤ base) (hBg : B ≤ g) (hbw : base ≤ w.heap.size) (hn : n ≤ 1099511627776) :
 Calls Tryd.prog 83 #[.pointer (some ⟨g, 0, none⟩), .bool b] w fun e w' => e = .returned (.tuple #[]) ∧ HashIs w' base g (n + 1) (catN (n * 32) x (flagN b)) ∧ Below B w w' := by
 obtain ⟨A, c, hr, ho, hne⟩ := hH
 have HO := Hd ho
 have HNe := Hd hne
 have hgl := hr.lt
 have hBw : B ≤ w.heap.size := lT hBb hbw
 have HS0 := Hd ((HS.nil w).take hr (fun r hr => by cases hr))
 clear hr ho hne
 cases b <;> go_enter Tryd.func83, Tryd.ntmps83
 ·go_upto_region 3 with (first
   | (refine zac rfl 24 4 rfl rfl HS0.out _ z24 32 (u8v fun _ => 0) n24 f24 ?_; intro b4 w4 hb4 hc4 hs; have HS4 := Hd hs; clear hs))
  have hs := HS4.out.congr 0 rfl (g := u8v (flagN false)) (fun i _ => by simp only [u8v, flagN]; split <;> rfl)
  refine HS.go hs (fun wa hs => ?_)
  have hA : HS w wa [⟨b4, 24, 32, u8v (flagN false)⟩, ⟨g, 90, 2, hashF A n c⟩] := hs
  have HA := Hd hA
  have hsz := hA.size
  have HOa := Hd (HO.out.hs hA (fun ad e => by have := HNe.out ad e; have h2 := (HO.out.base_le ad e).2; simp; omega))
  have HWa := Hd (hA.old hBw (by simp; omega))
  clear hs hA HS0 HS4
  refine zcu (n := 11) (by kernel_rfl) (by kernel_rfl) ?_
  have HA2 := Hd HA.out.drew
  have HOa2 : Hid (OwnZ wa.drew base 24 32 A n c (u8v x)) := Hd HOa.out
  have HWa2 : Hid (Below B w wa.drew) := Hd ⟨HWa.out.os, HWa.out.tape, HWa.out.output, HWa.out.size, HWa.out.block⟩
  have hsz2 : w.heap.size ≤ wa.drew.heap.size := hsz
  clear HA HOa HWa hsz
  have HA := HA2
  have HOa := HOa2
  have HWa := HWa2
  have hsz := hsz2
  clear HA2 HOa2 HWa2 hsz2
  generalize wa.drew = wv at HA HOa HWa hsz ⊢
  refine zas (i := 0) (.pointer (some ⟨g, 0, none⟩)) rfl (by kernel_rfl) (by kernel_rfl) (by kernel_rfl) rfl (fun _ _ _ h => h) (zce (.inl rfl) rfl) ?_
  refine zas (i := 1) (.pointer (some ⟨g, 0, none⟩)) rfl (by kernel_rfl) (by kernel_rfl) (by kernel_rfl) rfl (fun _ _ _ h => h) (zce (.inl rfl) rfl) ?_
  refine zas (i := 2) (.pointer (some ⟨g, 0, none⟩)) rfl (by kernel_rfl) (by kernel_rfl) (by kernel_rfl) rfl (fun _ _ _ h => h) (zcx rfl rfl) ?_
  refine zas (i := 3) (.pointer (some ⟨g, 0, none⟩)) rfl (by kernel_rfl) (by kernel_rfl) (by kernel_rfl) rfl (fun _ _ _ h => h) (zbh rfl rfl (fun w => by simp [go_sem])) ?_
  simp only [pcX]
  refine zay (i := 4) (j := 5) rfl rfl (by kernel_rfl) rfl rfl (fun K hK => ?_) (fun K hK => ?_)
  refine zbr (.slice A n c) (zcr rfl rfl (zdt _ _ wv ((HA.out.row 1 rfl).cell (i := 0) (by show 0 < 2; omega)))) ?_
  refine hK _ _ ?_
  clear hK
  simp only [pcX]
  refine zah (i := 5) rfl (by kernel_rfl) rfl (fun K hK => ?_)
  refine zbr (rootV (flagN false)) (zc1 (r := (flagN false)) rfl rfl wv (HA.out.row 0 rfl)) ?_
  refine hK _ _ ?_
  clear hK
  simp only [pcX]
  refine zah (i := 6) rfl (by kernel_rfl) rfl (fun K hK => ?_)
  refine zci Ty32 s24 (by omega) (by omega) z24 _ rfl (u8v (flagN false)) rfl (HS.nil wv) ?_
  intro b21 wl hb21 _ hl
  have HL := Hd hl
  clear hl
  refine hK _ _ ?_
  clear hK
  simp only [pcX]
  rotate_left
  refine zbr (rootV (flagN false)) (zc1 (r := (flagN false)) rfl rfl wv (HA.out.row 0 rfl)) ?_
  refine hK _ _ ?_
  clear hK
  simp only [pcX]
  refine zay (i := 4) (j := 6) rfl rfl (by kernel_rfl) rfl rfl (fun K hK => ?_) (fun K hK => ?_)
  refine zbr (.slice A n c) (zcr rfl rfl (zdt _ _ wv ((HA.out.row 1 rfl).cell (i := 0) (by show 0 < 2; omega)))) ?_
  refine hK _ _ ?_
  clear hK
  simp only [pcX]
  refine zah (i := 6) rfl (by kernel_rfl) rfl (fun K hK => ?_)
  refine zci Ty32 s24 (by omega) (by omega) z24 _ rfl (u8v (flagN false)) rfl (HS.nil wv) ?_
  intro b21 wl hb21 _ hl
  have HL := Hd hl
  clear hl
  refine hK _ _ ?_
  clear hK
  simp only [pcX]
  rotate_left
  refine zci Ty32 s24 (by omega) (by omega) z24 _ rfl (u8v (flagN false)) rfl (HS.nil wv) ?_
  intro b21 wl hb21 _ hl
  have HL := Hd hl
  clear hl
  refine hK _ _ ?_
  clear hK
  simp only [pcX]
  refine zah (i := 4) rfl (by kernel_rfl) rfl (fun K hK => ?_)
  refine zbr (.slice A n c) (zcr rfl rfl (zdt _ _ wl ((zaj (HA.out.row 1 rfl) (HL.out.out (by simp; omega)) (HA.out.row 1 rfl).lt).cell (i := 0) (by show 0 < 2; omega)))) ?_
  refine hK _ _ ?_
  clear hK
  simp only [pcX]
  all_goals
   have hwl := HL.out
   have hb := hwl.out (by simp; omega)
   have ho' := HOa.out.all hb
   have hr21 := Rd.of_row (hwl.row 0 rfl) lR (hwl.lt 0 rfl)
   have hbw' : base ≤ wl.heap.size := lT hbw (lT hsz hb.size)
   have hwb := HWa.out.trans (hb.mono (lT hBw hsz))
   have hrg : wl.rowIs g 90 2 (hashF A n c) := zaj (HA.out.row 1 rfl) hb (HA.out.row 1 rfl).lt
   refine zah (i := 7) rfl (by kernel_rfl) rfl (fun K hK => ?_)
   refine zdy wl (.tmp 11) (.tmp 13) 32 base i24 Ty32 (by rfl) (by omega) rfl (n + 1) (u8v (catN (n * 32) x (flagN false))) rfl rfl ho' hr21 (fun _ _ => rfl) rfl zjs ⟨by omega, by omega⟩ hbw' ?_
   intro A22 c22 w22 ho22 hg22 ha22
   have hrg2 := hrg.of_block (hg22.block g hrg.lt (fun e => by
    cases A with
    | none => cases e
    | some ad => injection e with e; exact HNe.out ad rfl e.symm))
   have hw22 := za4 hwb hg22 (lT hBb hbw') (fun ad e => lT hBb (HO.out.base_le ad e).1)
   have hne22 : ∀ ad, A22 = some ad → ad.block ≠ g := fun ad e => by
    rcases ha22 ad e with h | h
    ·cases A with
     | none => cases h
     | some ad' => injection h with h; rw [h]; exact HNe.out ad' rfl
    ·have := hrg.lt; omega
   have HO22 := Hd ho22
   clear ho' hbw' hwb hrg hg22 ha22 ho22 hb hr21 hwl
   refine hK _ _ ?_
   clear hK
   simp only [pcX]
   refine zah (i := 8) rfl (by kernel_rfl) rfl (fun K hK => ?_)
   refine zbr (.pointer (some ⟨g, 0, none⟩)) (zcx rfl rfl _) ?_
   refine hK _ _ ?_
   clear hK
   simp only [pcX]
   refine zah (i := 9) rfl (by kernel_rfl) rfl (fun K hK => ?_)
   refine zbr (.pointer (some ⟨g, 0, none⟩)) (zbh rfl rfl (fun w => by simp [go_sem]) _) ?_
   refine hK _ _ ?_
   clear hK
   simp only [pcX]
   refine zah (i := 10) rfl (by kernel_rfl) rfl (fun K hK => ?_)
   refine zdf rfl rfl (v := .slice A22 (n + 1) c22) rfl rfl (zjt ⟨g, 0, none⟩ A22 (n + 1) c22 _ w22 (hrg2.cell (i := 0) (by show 0 < 2; omega)) (hrg2.frozen 0)) ?_
   refine hK _ _ (wpAny_done (by kernel_rfl) ?_ _)
   clear hK
   have hg := zbv (World.grownBy.refl w22 (some g)) (.inl rfl) (.slice A22 (n + 1) c22) (p := ⟨g, 0, none⟩)
   have hr3 := (hrg2.set 0 (.slice A22 (n + 1) c22)).congr (g := hashF A22 (n + 1) c22) (fun i hi => by
    by_cases e : i = 0
    ·subst e; rfl
    ·show (if i = 0 then _ else hashF A n c i) = hashF A22 (n + 1) c22 i
     rw [if_neg e]; unfold hashF; rw [if_neg e, if_neg e])
   have ho3 := HO22.out.kept hg (fun ad e h => by injection h with h; exact hne22 ad e h)
   have hw3 := hw22.grown hg (lT hBw hw22.size) (fun k hk => by injection hk with hk; omega)
   go_wp2_with fail
   go_end0
   exact ⟨rfl, ⟨A22, c22, hr3, ho3, hne22⟩, hw3⟩
 ·go_upto_region 3 with (first
   | (refine zac rfl 24 4 rfl rfl HS0.out _ z24 32 (u8v fun _ => 0) n24 f24 ?_; intro b4 w4 hb4 hc4 hs; have HS4 := Hd hs; clear hs)
   | (refine ShufLawOps.zjr rfl 5 (.tmp 6) (.const (.int .u8 1)) rfl HS4.out 0 rfl 0 (.int .u8 1) (fun w ad u h hf => by simp [go_sem, h, hf]) rfl rfl (by omega) (u8v (flagN true)) (fun i _ => by simp only [u8v, flagN]; split <;> rfl) ?_; intro w5 hs _; have HS5 := Hd hs; clear hs))
  have hs := HS5.out
  refine HS.go hs (fun wa hs => ?_)
  have hA : HS w wa [⟨b4, 24, 32, u8v (flagN true)⟩, ⟨g, 90, 2, hashF A n c⟩] := hs
  have HA := Hd hA
  have hsz := hA.size
  have HOa := Hd (HO.out.hs hA (fun ad e => by have := HNe.out ad e; have h2 := (HO.out.base_le ad e).2; simp; omega))
  have HWa := Hd (hA.old hBw (by simp; omega))
  clear hs hA HS0 HS4
  refine zcu (n := 11) (by kernel_rfl) (by kernel_rfl) ?_
  have HA2 := Hd HA.out.drew
  have HOa2 : Hid (OwnZ wa.drew base 24 32 A n c (u8v x)) := Hd HOa.out
  have HWa2 : Hid (Below B w wa.drew) := Hd ⟨HWa.out.os, HWa.out.tape, HWa.out.output, HWa.out.size, HWa.out.block⟩
  have hsz2 : w.heap.size ≤ wa.drew.heap.size := hsz
  clear HA HOa HWa hsz
  have HA := HA2
  have HOa := HOa2
  have HWa := HWa2
  have hsz := hsz2
  clear HA2 HOa2 HWa2 hsz2
  generalize wa.drew = wv at HA HOa HWa hsz ⊢
  refine zas (i := 0) (.pointer (some ⟨g, 0, none⟩)) rfl (by kernel_rfl) (by kernel_rfl) (by kernel_rfl) rfl (fun _ _ _ h => h) (zce (.inl rfl) rfl) ?_
  refine zas (i := 1) (.pointer (some ⟨g, 0, none⟩)) rfl (by kernel_rfl) (by kernel_rfl) (by kernel_rfl) rfl (fun _ _ _ h => h) (zce (.inl rfl) rfl) ?_
  refine zas (i := 2) (.pointer (some ⟨g, 0, none⟩)) rfl (by kernel_rfl) (by kernel_rfl) (by kernel_rfl) rfl (fun _ _ _ h => h) (zcx rfl rfl) ?_
  refine zas (i := 3) (.pointer (some ⟨g, 0, none⟩)) rfl (by kernel_rfl) (by kernel_rfl) (by kernel_rfl) rfl (fun _ _ _ h => h) (zbh rfl rfl (fun w => by simp [go_sem])) ?_
  simp only [pcX]
  refine zay (i := 4) (j := 5) rfl rfl (by kernel_rfl) rfl rfl (fun K hK => ?_) (fun K hK => ?_)
  refine zbr (.slice A n c) (zcr rfl rfl (zdt _ _ wv ((HA.out.row 1 rfl).cell (i := 0) (by show 0 < 2; omega)))) ?_
  refine hK _ _ ?_
  clear hK
  simp only [pcX]
  refine zah (i := 5) rfl (by kernel_rfl) rfl (fun K hK => ?_)
  refine zbr (rootV (flagN true)) (zc1 (r := (flagN true)) rfl rfl wv (HA.out.row 0 rfl)) ?_
  refine hK _ _ ?_
  clear hK
  simp only [pcX]
  refine zah (i := 6) rfl (by kernel_rfl) rfl (fun K hK => ?_)
  refine zci Ty32 s24 (by omega) (by omega) z24 _ rfl (u8v (flagN true)) rfl (HS.nil wv) ?_
  intro b21 wl hb21 _ hl
  have HL := Hd hl
  clear hl
  refine hK _ _ ?_
  clear hK
  simp only [pcX]
  rotate_left
  refine zbr (rootV (flagN true)) (zc1 (r := (flagN true)) rfl rfl wv (HA.out.row 0 rfl)) ?_
  refine hK _ _ ?_
  clear hK
  simp only [pcX]
  refine zay (i := 4) (j := 6) rfl rfl (by kernel_rfl) rfl rfl (fun K hK => ?_) (fun K hK => ?_)
  refine zbr (.slice A n c) (zcr rfl rfl (zdt _ _ wv ((HA.out.row 1 rfl).cell (i := 0) (by show 0 < 2; omega)))) ?_
  refine hK _ _ ?_
  clear hK
  simp only [pcX]
  refine zah (i := 6) rfl (by kernel_rfl) rfl (fun K hK => ?_)
  refine zci Ty32 s24 (by omega) (by omega) z24 _ rfl (u8v (flagN true)) rfl (HS.nil wv) ?_
  intro b21 wl hb21 _ hl
  have HL := Hd hl
  clear hl
  refine hK _ _ ?_
  clear hK
  simp only [pcX]
  rotate_left
  refine zci Ty32 s24 (by omega) (by omega) z24 _ rfl (u8v (flagN true)) rfl (HS.nil wv) ?_
  intro b21 wl hb21 _ hl
  have HL := Hd hl
  clear hl
  refine hK _ _ ?_
  clear hK
  simp only [pcX]
  refine zah (i := 4) rfl (by kernel_rfl) rfl (fun K hK => ?_)
  refine zbr (.slice A n c) (zcr rfl rfl (zdt _ _ wl ((zaj (HA.out.row 1 rfl) (HL.out.out (by simp; omega)) (HA.out.row 1 rfl).lt).cell (i := 0) (by show 0 < 2; omega)))) ?_
  refine hK _ _ ?_
  clear hK
  simp only [pcX]
  all_goals
   have hwl := HL.out
   have hb := hwl.out (by simp; omega)
   have ho' := HOa.out.all hb
   have hr21 := Rd.of_row (hwl.row 0 rfl) lR (hwl.lt 0 rfl)
   have hbw' : base ≤ wl.heap.size := lT hbw (lT hsz hb.size)
   have hwb := HWa.out.trans (hb.mono (lT hBw hsz))
   have hrg : wl.rowIs g 90 2 (hashF A n c) := zaj (HA.out.row 1 rfl) hb (HA.out.row 1 rfl).lt
   refine zah (i := 7) rfl (by kernel_rfl) rfl (fun K hK => ?_)
   refine zdy wl (.tmp 11) (.tmp 13) 32 base i24 Ty32 (by rfl) (by omega) rfl (n + 1) (u8v (catN (n * 32) x (flagN true))) rfl rfl ho' hr21 (fun _ _ => rfl) rfl zjs ⟨by omega, by omega⟩ hbw' ?_
   intro A22 c22 w22 ho22 hg22 ha22
   have hrg2 := hrg.of_block (hg22.block g hrg.lt (fun e => by
    cases A with
    | none => cases e
    | some ad => injection e with e; exact HNe.out ad rfl e.symm))
   have hw22 := za4 hwb hg22 (lT hBb hbw') (fun ad e => lT hBb (HO.out.base_le ad e).1)
   have hne22 : ∀ ad, A22 = some ad → ad.block ≠ g := fun ad e => by
    rcases ha22 ad e with h | h
    ·cases A with
     | none => cases h
     | some ad' => injection h with h; rw [h]; exact HNe.out ad' rfl
    ·have := hrg.lt; omega
   have HO22 := Hd ho22
   clear ho' hbw' hwb hrg hg22 ha22 ho22 hb hr21 hwl
   refine hK _ _ ?_
   clear hK
   simp only [pcX]
   refine zah (i := 8) rfl (by kernel_rfl) rfl (fun K hK => ?_)
   refine zbr (.pointer (some ⟨g, 0, none⟩)) (zcx rfl rfl _) ?_
   refine hK _ _ ?_
   clear hK
   simp only [pcX]
   refine zah (i := 9) rfl (by kernel_rfl) rfl (fun K hK => ?_)
   refine zbr (.pointer (some ⟨g, 0, none⟩)) (zbh rfl rfl (fun w => by simp [go_sem]) _) ?_
   refine hK _ _ ?_
   clear hK
   simp only [pcX]
   refine zah (i := 10) rfl (by kernel_rfl) rfl (fun K hK => ?_)
   refine zdf rfl rfl (v := .slice A22 (n + 1) c22) rfl rfl (zjt ⟨g, 0, none⟩ A22 (n + 1) c22 _ w22 (hrg2.cell (i := 0) (by show 0 < 2; omega)) (hrg2.frozen 0)) ?_
   refine hK _ _ (wpAny_done (by kernel_rfl) ?_ _)
   clear hK
   have hg := zbv (World.grownBy.refl w22 (some g)) (.inl rfl) (.slice A22 (n + 1) c22) (p := ⟨g, 0, none⟩)
   have hr3 := (hrg2.set 0 (.slice A22 (n + 1) c22)).congr (g := hashF A22 (n + 1) c22) (fun i hi => by
    by_cases e : i = 0
    ·subst e; rfl
    ·show (if i = 0 then _ else hashF A n c i) = hashF A22 (n + 1) c22 i
     rw [if_neg e]; unfold hashF; rw [if_neg e, if_neg e])
   have ho3 := HO22.out.kept hg (fun ad e h => by injection h with h; exact hne22 ad e h)
   have hw3 := hw22.grown hg (lT hBw hw22.size) (fun k hk => by injection hk with hk; omega)
   go_wp2_with fail
   go_end0
   exact ⟨rfl, ⟨A22, c22, hr3, ho3, hne22⟩, hw3⟩
theorem eqNilCR (w : World) (A : Option Addr) (n c : Nat) : (binOp .eql 32 (.slice A n c) (.slice none 0 0)).run Tryd.prog w = .ok (.bool A.isNone) w :=
 Lib.run_eql_slice_nil w _ _ A n c 0 0 Ty32
theorem zud (vs : Array Value) (w : World) : (callFunc 44 vs).run Tryd.prog w = .ok (.enter 44 vs) w := by kernel_rfl
open StCopy in
theorem zue (n c : Nat) (A : Option Addr) (x : Nat → Value) (w : World) (hb : Rd w w.heap.size A (n * 32) x) (h1 : ∀ i, i < n * 32 → (x i).oneCell' = true) (hn : n ≤ 65536) :
 Calls Tryd.prog 44 #[.slice A n c] w fun e w' => ∃ A' c', e = .returned (.slice A' n c') ∧ OwnZ w' w.heap.size 24 32 A' n c' x ∧ Below w.heap.size w w' := by
 have HX := Hd hb
 have HS0 := Hd (HS.nil w)
 have H1 := Hd h1
 clear h1
 cases A with
 | none =>
  obtain rfl : n = 0 := by
   rcases Nat.eq_zero_or_pos n with h | h
   ·exact h
   ·obtain ⟨ad, h1, _⟩ := hb (by omega); cases h1
  clear hb
  go_enter Tryd.func44, Tryd.ntmps44
  go_wp2_with ((with_reducible refine at_l ?_); refine zab rfl 4 rfl (.bool true) ?_ ?_; (· exact zee rfl rfl (eqNilCR w none 0 c)))
  go_ret
  exact ⟨none, 0, rfl, OwnZ.nil _ _ _ _ _, Below.refl _ _⟩
 | some ad =>
  clear hb
  go_enter Tryd.func44, Tryd.ntmps44
  go_wp2_with (first
   | ((with_reducible refine at_l ?_); first
    | (refine zab rfl 4 rfl (.bool false) ?_ ?_; (· exact zee rfl rfl (eqNilCR w (some ad) n c)))
    | (refine zdi rfl 32 rfl bs0R HS0.out ?_; intro b5 w2 hb5 hs ho; have HS2 := Hd hs; have HO2 := Hd ho; clear hs ho))
   | (at_builtin; refine zc9 rfl (.tmp 5) (.tmp 6) 32 w.heap.size i24 Ty32 (by rfl) (by omega) rfl rfl HO2.out rfl (HX.out.below HS2.out.bel) H1.out ⟨by omega, by omega⟩ HS2.out.size HS2.out ?_; intro A7 c7 w3 ho hs; have HO3 := Hd ho; have HS3 := Hd hs; clear ho hs))
  go_ret
  exact ⟨A7, c7, rfl, HO3.out, HS3.out.bel⟩
theorem eqNilCE (w : World) (A : Option Addr) (n c : Nat) : (binOp .eql 35 (.slice A n c) (.slice none 0 0)).run Tryd.prog w = .ok (.bool A.isNone) w :=
 Lib.run_eql_slice_nil w _ _ A n c 0 0 Ty35
theorem zuf (vs : Array Value) (w : World) : (callFunc 45 vs).run Tryd.prog w = .ok (.enter 45 vs) w := by kernel_rfl
open StCopy in
theorem zug (n c : Nat) (A : Option Addr) (x : Nat → Value) (w : World) (hb : Rd w w.heap.size A (n * 65) x) (h1 : ∀ i, i < n * 65 → (x i).oneCell' = true) (hn : n ≤ 65536) :
 Calls Tryd.prog 45 #[.slice A n c] w fun e w' => ∃ A' c', e = .returned (.slice A' n c') ∧ OwnZ w' w.heap.size 34 65 A' n c' x ∧ Below w.heap.size w w' := by
 have HX := Hd hb
 have HS0 := Hd (HS.nil w)
 have H1 := Hd h1
 clear h1
 cases A with
 | none =>
  obtain rfl : n = 0 := by
   rcases Nat.eq_zero_or_pos n with h | h
   ·exact h
   ·obtain ⟨ad, h1, _⟩ := hb (by omega); cases h1
  clear hb
  go_enter Tryd.func45, Tryd.ntmps45
  go_wp2_with ((with_reducible refine at_l ?_); refine zab rfl 4 rfl (.bool true) ?_ ?_; (· exact zee rfl rfl (eqNilCE w none 0 c)))
  go_ret
  exact ⟨none, 0, rfl, OwnZ.nil _ _ _ _ _, Below.refl _ _⟩
 | some ad =>
  clear hb
  go_enter Tryd.func45, Tryd.ntmps45
  go_wp2_with (first
   | ((with_reducible refine at_l ?_); first
    | (refine zab rfl 4 rfl (.bool false) ?_ ?_; (· exact zee rfl rfl (eqNilCE w (some ad) n c)))
    | (refine zdi rfl 65 rfl bs0E HS0.out ?_; intro b5 w2 hb5 hs ho; have HS2 := Hd hs; have HO2 := Hd ho; clear hs ho))
   | (at_builtin; refine zc9 rfl (.tmp 5) (.tmp 6) 35 w.heap.size (z := zE) (k := 65) (bytes := 72) zt8 Ty35 zua (by omega) rfl rfl HO2.out rfl (HX.out.below HS2.out.bel) H1.out ⟨by omega, by omega⟩ HS2.out.size HS2.out ?_; intro A7 c7 w3 ho hs; have HO3 := Hd ho; have HS3 := Hd hs; clear ho hs))
  go_ret
  exact ⟨A7, c7, rfl, HO3.out, HS3.out.bel⟩
theorem eqNilCV (w : World) (A : Option Addr) (n c : Nat) : (binOp .eql 36 (.slice A n c) (.slice none 0 0)).run Tryd.prog w = .ok (.bool A.isNone) w :=
 Lib.run_eql_slice_nil w _ _ A n c 0 0 Ty36
theorem zuh (vs : Array Value) (w : World) : (callFunc 46 vs).run Tryd.prog w = .ok (.enter 46 vs) w := by kernel_rfl
open StCopy in
theorem zui (n c : Nat) (A : Option Addr) (x : Nat → Value) (w : World) (hb : Rd w w.heap.size A (n * 86) x) (h1 : ∀ i, i < n * 86 → (x i).oneCell' = true) (hn : n ≤ 65536) :
 Calls Tryd.prog 46 #[.slice A n c] w fun e w' => ∃ A' c', e = .returned (.slice A' n c') ∧ OwnZ w' w.heap.size 66 86 A' n c' x ∧ Below w.heap.size w w' := by
 have HX := Hd hb
 have HS0 := Hd (HS.nil w)
 have H1 := Hd h1
 clear h1
 cases A with
 | none =>
  obtain rfl : n = 0 := by
   rcases Nat.eq_zero_or_pos n with h | h
   ·exact h
   ·obtain ⟨ad, h1, _⟩ := hb (by omega); cases h1
  clear hb
  go_enter Tryd.func46, Tryd.ntmps46
  go_wp2_with ((with_reducible refine at_l ?_); refine zab rfl 4 rfl (.bool true) ?_ ?_; (· exact zee rfl rfl (eqNilCV w none 0 c)))
  go_ret
  exact ⟨none, 0, rfl, OwnZ.nil _ _ _ _ _, Below.refl _ _⟩
 | some ad =>
  clear hb
  go_enter Tryd.func46, Tryd.ntmps46
  go_wp2_with (first
   | ((with_reducible refine at_l ?_); first
    | (refine zab rfl 4 rfl (.bool false) ?_ ?_; (· exact zee rfl rfl (eqNilCV w (some ad) n c)))
    | (refine zdi rfl 86 rfl bs0V HS0.out ?_; intro b5 w2 hb5 hs ho; have HS2 := Hd hs; have HO2 := Hd ho; clear hs ho))
   | (at_builtin; refine zc9 rfl (.tmp 5) (.tmp 6) 36 w.heap.size (z := zV) (k := 86) (bytes := 128) zt7 Ty36 zt9 (by omega) rfl rfl HO2.out rfl (HX.out.below HS2.out.bel) H1.out ⟨by omega, by omega⟩ HS2.out.size HS2.out ?_; intro A7 c7 w3 ho hs; have HO3 := Hd ho; have HS3 := Hd hs; clear ho hs))
  go_ret
  exact ⟨A7, c7, rfl, HO3.out, HS3.out.bel⟩
theorem eqNilC64 (w : World) (A : Option Addr) (n c : Nat) : (binOp .eql 37 (.slice A n c) (.slice none 0 0)).run Tryd.prog w = .ok (.bool A.isNone) w :=
 Lib.run_eql_slice_nil w _ _ A n c 0 0 Ty37
theorem zma (vs : Array Value) (w : World) : (callFunc 47 vs).run Tryd.prog w = .ok (.enter 47 vs) w := by kernel_rfl
open StCopy in
theorem zmb (n c : Nat) (A : Option Addr) (x : Nat → Value) (w : World) (hb : Rd w w.heap.size A (n * 1) x) (h1 : ∀ i, i < n * 1 → (x i).oneCell' = true) (hn : n ≤ 65536) :
 Calls Tryd.prog 47 #[.slice A n c] w fun e w' => ∃ A' c', e = .returned (.slice A' n c') ∧ OwnZ w' w.heap.size 22 1 A' n c' x ∧ Below w.heap.size w w' := by
 have HX := Hd hb
 have HS0 := Hd (HS.nil w)
 have H1 := Hd h1
 clear h1
 cases A with
 | none =>
  obtain rfl : n = 0 := by
   rcases Nat.eq_zero_or_pos n with h | h
   ·exact h
   ·obtain ⟨ad, h1, _⟩ := hb (by omega); cases h1
  clear hb
  go_enter Tryd.func47, Tryd.ntmps47
  go_wp2_with ((with_reducible refine at_l ?_); refine zab rfl 4 rfl (.bool true) ?_ ?_; (· exact zee rfl rfl (eqNilC64 w none 0 c)))
  go_ret
  exact ⟨none, 0, rfl, OwnZ.nil _ _ _ _ _, Below.refl _ _⟩
 | some ad =>
  clear hb
  go_enter Tryd.func47, Tryd.ntmps47
  go_wp2_with (first
   | ((with_reducible refine at_l ?_); first
    | (refine zab rfl 4 rfl (.bool false) ?_ ?_; (· exact zee rfl rfl (eqNilC64 w (some ad) n c)))
    | (refine zdi rfl 1 rfl bs064 HS0.out ?_; intro b5 w2 hb5 hs ho; have HS2 := Hd hs; have HO2 := Hd ho; clear hs ho))
   | (at_builtin; refine zc9 rfl (.tmp 5) (.tmp 6) 37 w.heap.size (z := .int .u64 0) (k := 1) (bytes := 8) (by kernel_rfl) Ty37 (by rfl) (by omega) rfl rfl HO2.out rfl (HX.out.below HS2.out.bel) H1.out ⟨by omega, by omega⟩ HS2.out.size HS2.out ?_; intro A7 c7 w3 ho hs; have HO3 := Hd ho; have HS3 := Hd hs; clear ho hs))
  go_ret
  exact ⟨A7, c7, rfl, HO3.out, HS3.out.bel⟩
theorem eqNilC8 (w : World) (A : Option Addr) (n c : Nat) : (binOp .eql 39 (.slice A n c) (.slice none 0 0)).run Tryd.prog w = .ok (.bool A.isNone) w :=
 Lib.run_eql_slice_nil w _ _ A n c 0 0 Ty39
theorem zn4 (vs : Array Value) (w : World) : (callFunc 48 vs).run Tryd.prog w = .ok (.enter 48 vs) w := by kernel_rfl
open StCopy in
theorem zn5 (n c : Nat) (A : Option Addr) (x : Nat → Value) (w : World) (hb : Rd w w.heap.size A (n * 1) x) (h1 : ∀ i, i < n * 1 → (x i).oneCell' = true) (hn : n ≤ 65536) :
 Calls Tryd.prog 48 #[.slice A n c] w fun e w' => ∃ A' c', e = .returned (.slice A' n c') ∧ OwnZ w' w.heap.size 5 1 A' n c' x ∧ Below w.heap.size w w' := by
 have HX := Hd hb
 have HS0 := Hd (HS.nil w)
 have H1 := Hd h1
 clear h1
 cases A with
 | none =>
  obtain rfl : n = 0 := by
   rcases Nat.eq_zero_or_pos n with h | h
   ·exact h
   ·obtain ⟨ad, h1, _⟩ := hb (by omega); cases h1
  clear hb
  go_enter Tryd.func48, Tryd.ntmps48
  go_wp2_with ((with_reducible refine at_l ?_); refine zab rfl 4 rfl (.bool true) ?_ ?_; (· exact zee rfl rfl (eqNilC8 w none 0 c)))
  go_ret
  exact ⟨none, 0, rfl, OwnZ.nil _ _ _ _ _, Below.refl _ _⟩
 | some ad =>
  clear hb
  go_enter Tryd.func48, Tryd.ntmps48
  go_wp2_with (first
   | ((with_reducible refine at_l ?_); first
    | (refine zab rfl 4 rfl (.bool false) ?_ ?_; (· exact zee rfl rfl (eqNilC8 w (some ad) n c)))
    | (refine zdi rfl 1 rfl bs08 HS0.out ?_; intro b5 w2 hb5 hs ho; have HS2 := Hd hs; have HO2 := Hd ho; clear hs ho))
   | (at_builtin; refine zc9 rfl (.tmp 5) (.tmp 6) 39 w.heap.size (z := .int .u8 0) (k := 1) (bytes := 1) (by kernel_rfl) Ty39 (by rfl) (by omega) rfl rfl HO2.out rfl (HX.out.below HS2.out.bel) H1.out ⟨by omega, by omega⟩ HS2.out.size HS2.out ?_; intro A7 c7 w3 ho hs; have HO3 := Hd ho; have HS3 := Hd hs; clear ho hs))
  go_ret
  exact ⟨A7, c7, rfl, HO3.out, HS3.out.bel⟩
end Go.Proofs.YtomilckcgmhfcaaDoor
