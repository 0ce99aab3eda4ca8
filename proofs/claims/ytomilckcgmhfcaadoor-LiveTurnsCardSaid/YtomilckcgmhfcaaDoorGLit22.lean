/- Lemmas that the proof stands on. -/
import Derived.Test.YtomilckcgmhfcaaDoorGLit21
namespace Go.Proofs.YtomilckcgmhfcaaDoor
set_option maxRecDepth 40000
set_option maxHeartbeats 64000000
open Go.RowKit
def SRole (L : Nat) (s : StV) (r b : Nat) : Prop := match r with
 | 0 => b = L
 | 1 => OnA s.aH b
 | 2 => OnA s.aE b
 | 3 => OnA s.aV b
 | 4 => OnA s.aB b
 | 5 => OnA s.aP b
 | 6 => OnA s.aC b
 | 7 => OnA s.aS b
 | _ + 8 => False
structure NewT (j : Nat) (v : TV) : Prop where
 st : TSt v 0 (fun _ => 0)
 lim : v.lim = lvL j
 D : v.D = dep (lvL j)
 H : v.H = 0
structure LB (w0 w : World) (base L : Nat) (s : StV) (G : Nat → Value) (T : Nat → Nat) (v : Nat → TV) (J : Nat → Bool) : Prop where
 baseL : base ≤ L
 row : w.rowIs L 70 1962 G
 cells : ∀ i, i < 1957 → G i = s.F i
 ok : StOk w w.heap.size s
 own : StOwn w base s
 ap : ∀ r r' b, SRole L s r b → SRole L s r' b → r = r'
 slt : ∀ r b, SRole L s r b → b < w0.heap.size
 tm : ∀ j, J j = true → TM w base (T j) (v j)
 nw : ∀ j, J j = true → ∀ b, (v j).own (T j) b ∨ OnA (v j).zA b → w0.heap.size ≤ b
 tap : ∀ j k b, J j = true → J k = true → (v j).own (T j) b → ((v k).own (T k) b → j = k) ∧ ¬ OnA (v k).zA b
 nt : ∀ j, J j = true → NewT j (v j)
 chg : Chg (fun b => b = L) w0 w
theorem TM.mono_ {w : World} {base base' T : Nat} {v : TV} (h : TM w base T v) (hb : base' ≤ base) : TM w base' T v :=
 { h with baseT := lT hb h.baseT, zb := fun b hz => lT hb (h.zb b hz), baseL := lT hb h.baseL, lv := fun k hk => (h.lv k hk).mono hb, dr := h.dr.mono hb }
section
variable {w0 w w' : World} {base L : Nat} {s : StV} {G : Nat → Value} {T : Nat → Nat} {v : Nat → TV} {J : Nat → Bool}
theorem LB.bw (h : LB w0 w base L s G T v J) : base ≤ w0.heap.size := lT h.baseL (Nat.le_of_lt (h.slt 0 L rfl))
theorem LB.sha (h : LB w0 w base L s G T v J) (hp : ShaPkg w0) (hpB : 0 < base ∧ 1 < base) : ShaPkg w :=
 hp.belowB hpB (h.chg.below h.bw (fun b e => by rw [e]; exact h.baseL))
theorem LB.keep (h : LB w0 w base L s G T v J) (hc : Chg (fun b => b = L) w w') (hk : ∀ r b, r ≠ 0 → SRole L s r b → w'.heap[b]? = w.heap[b]?) (hr : w'.rowIs L 70 1962 G) (ht : ∀ j, J j = true → ∀ b, (v j).own (T j) b ∨ OnA (v j).zA b → w'.heap[b]? = w.heap[b]?) : LB w0 w' base L s G T v J := by
 have o : StOwn w' base s := ⟨h.own.H.blk fun ad e => hk 1 _ (by omega) ⟨ad, e, rfl⟩, h.own.E.blk fun ad e => hk 2 _ (by omega) ⟨ad, e, rfl⟩, h.own.V.blk fun ad e => hk 3 _ (by omega) ⟨ad, e, rfl⟩, h.own.B.blk fun ad e => hk 4 _ (by omega) ⟨ad, e, rfl⟩, h.own.P.blk fun ad e => hk 5 _ (by omega) ⟨ad, e, rfl⟩, h.own.C.blk fun ad e => hk 6 _ (by omega) ⟨ad, e, rfl⟩, h.own.S.blk fun ad e => hk 7 _ (by omega) ⟨ad, e, rfl⟩⟩
 exact { h with
  row := hr
  ok := h.ok.of_own o
  own := o
  tm := fun j hj => (h.tm j hj).keep hc.size (ht j hj)
  chg := h.chg.trans hc (fun b e => .inl e) }
theorem LB.below (h : LB w0 w base L s G T v J) (hb : Below w.heap.size w w') : LB w0 w' base L s G T v J :=
 h.keep ((Chg.of_below (S := fun _ => False) hb).mono (fun _ _ h => h.elim)) (fun r b _ hr => hb.block b (Nat.lt_of_lt_of_le (h.slt r b hr) h.chg.size)) (zaj h.row hb h.row.lt) (fun j hj b hbb => hb.block b (by
  rcases hbb with h1 | h1
  ·exact (h.tm j hj).lt h1
  ·exact (h.tm j hj).zlt h1))
theorem LB.sto (h : LB w0 w base L s G T v J) (j : Nat) (hj : j < 5) (u : Value) : LB w0 (w.setCell ⟨L, 1957 + j, none⟩ u) base L s (fun i => if i = 1957 + j then u else G i) T v J := by
 have hoth : ∀ b, b ≠ L → (w.setCell ⟨L, 1957 + j, none⟩ u).heap[b]? = w.heap[b]? := fun b hb => Below.heap_setCell w _ _ b hb
 have hL : L < w0.heap.size := h.slt 0 L rfl
 have hne : ∀ r b, r ≠ 0 → SRole L s r b → b ≠ L := fun r b hr h1 e => hr (h.ap r 0 b h1 e)
 have htn : ∀ j, J j = true → ∀ b, (v j).own (T j) b ∨ OnA (v j).zA b → b ≠ L := fun j hj b hb e => by have := h.nw j hj b hb; omega
 have h0 : LB w0 w base L s (fun i => if i = 1957 + j then u else G i) T v J → LB w0 (w.setCell ⟨L, 1957 + j, none⟩ u) base L s (fun i => if i = 1957 + j then u else G i) T v J := fun h1 => h1.keep ⟨rfl, rfl, rfl, by simp [World.setCell], fun b _ hb => hoth b hb⟩ (fun r b hr h2 => hoth b (hne r b hr h2)) (h.row.set _ _) (fun j hj b hb => hoth b (htn j hj b hb))
 have o : StOwn (w.setCell ⟨L, 1957 + j, none⟩ u) base s := ⟨h.own.H.blk fun ad e => hoth _ (hne 1 _ (by omega) ⟨ad, e, rfl⟩), h.own.E.blk fun ad e => hoth _ (hne 2 _ (by omega) ⟨ad, e, rfl⟩), h.own.V.blk fun ad e => hoth _ (hne 3 _ (by omega) ⟨ad, e, rfl⟩), h.own.B.blk fun ad e => hoth _ (hne 4 _ (by omega) ⟨ad, e, rfl⟩), h.own.P.blk fun ad e => hoth _ (hne 5 _ (by omega) ⟨ad, e, rfl⟩), h.own.C.blk fun ad e => hoth _ (hne 6 _ (by omega) ⟨ad, e, rfl⟩), h.own.S.blk fun ad e => hoth _ (hne 7 _ (by omega) ⟨ad, e, rfl⟩)⟩
 have hc : Chg (fun b => b = L) w (w.setCell ⟨L, 1957 + j, none⟩ u) := ⟨rfl, rfl, rfl, by simp [World.setCell], fun b _ hb => hoth b hb⟩
 exact { h with
  row := h.row.set _ _
  cells := fun i hi => by show (if i = 1957 + j then u else G i) = _; rw [if_neg (by omega)]; exact h.cells i hi
  ok := h.ok.of_own o
  own := o
  tm := fun k hk => (h.tm k hk).keep hc.size (fun b hb => hoth b (htn k hk b hb))
  chg := h.chg.trans hc (fun b e => .inl e) }
theorem LB.new_ (h : LB w0 w base L s G T v J) {j : Nat} (hj : J j = false) (hb : Below w.heap.size w w') {T' : Nat} {u : TV} (hm : TM w' w.heap.size T' u) (hn : NewT j u) : LB w0 w' base L s G (updX T j T') (updX v j u) (fun k => if k = j then true else J k) := by
 have h1 := h.below hb
 have hT : ∀ k, k ≠ j → updX T j T' k = T k ∧ updX v j u k = v k := fun k hk => ⟨zdn T T' hk, zdn v u hk⟩
 have old : ∀ k, k ≠ j → (if k = j then true else J k) = true → J k = true := fun k hk hJ => by rwa [if_neg hk] at hJ
 have lt : ∀ k, J k = true → ∀ b, (v k).own (T k) b ∨ OnA (v k).zA b → b < w.heap.size := fun k hk b hbb => by
  rcases hbb with h2 | h2
  ·exact (h.tm k hk).lt h2
  ·exact (h.tm k hk).zlt h2
 have ge : ∀ b, u.own T' b ∨ OnA u.zA b → w.heap.size ≤ b := fun b hbb => by
  rcases hbb with h2 | h2
  ·exact hm.ge h2
  ·exact hm.zb b h2
 exact { h1 with
  tm := fun k hk => by
   by_cases e : k = j
   ·subst e; rw [zb8, zb8]; exact hm.mono_ (lT h.bw h.chg.size)
   ·rw [(hT k e).1, (hT k e).2]; exact h1.tm k (old k e hk)
  nw := fun k hk b hbb => by
   by_cases e : k = j
   ·subst e; rw [zb8, zb8] at hbb; exact lT h.chg.size (ge b hbb)
   ·rw [(hT k e).1, (hT k e).2] at hbb; exact h.nw k (old k e hk) b hbb
  tap := fun a b c ha hb2 ho => by
   by_cases ea : a = j <;> by_cases eb : b = j
   ·subst ea eb; rw [zb8, zb8] at ho ⊢; exact ⟨fun _ => rfl, fun hz => hm.zapart c hz ho⟩
   ·subst ea; rw [zb8, zb8] at ho; rw [(hT b eb).1, (hT b eb).2]
    have := ge c (.inl ho)
    exact ⟨fun h2 => by have := lt b (old b eb hb2) c (.inl h2); omega, fun h2 => by have := lt b (old b eb hb2) c (.inr h2); omega⟩
   ·subst eb; rw [(hT a ea).1, (hT a ea).2] at ho; rw [zb8, zb8]
    have := lt a (old a ea ha) c (.inl ho)
    exact ⟨fun h2 => by have := ge c (.inl h2); omega, fun h2 => by have := ge c (.inr h2); omega⟩
   ·rw [(hT a ea).1, (hT a ea).2] at ho; rw [(hT b eb).1, (hT b eb).2]
    exact h.tap a b c (old a ea ha) (old b eb hb2) ho
  nt := fun k hk => by
   by_cases e : k = j
   ·subst e; rw [zb8]; exact hn
   ·rw [(hT k e).2]; exact h.nt k (old k e hk) }
theorem LB.lm (h : LB w0 w base L s G T v J) (hJ : ∀ j, j < 5 → J j = true) (hG : ∀ j, j < 5 → G (1957 + j) = tpV (T j)) : LM w base L s T v := by
 have rl : ∀ r b, LRole L s T v r b → SRole L s r b ∨ ∃ j, r = j + 8 ∧ j < 5 ∧ (v j).own (T j) b := fun r b hr => by
  match r, hr with
  | 0, hr => exact .inl hr
  | 1, hr => exact .inl hr
  | 2, hr => exact .inl hr
  | 3, hr => exact .inl hr
  | 4, hr => exact .inl hr
  | 5, hr => exact .inl hr
  | 6, hr => exact .inl hr
  | 7, hr => exact .inl hr
  | j + 8, hr => exact .inr ⟨j, rfl, hr.1, hr.2⟩
 exact {
  baseL := h.baseL
  row := h.row.congr (fun i hi => by
   unfold liveF
   by_cases h1 : i < 1957
   ·rw [if_pos h1]; exact h.cells i h1
   ·rw [if_neg h1, ← hG (i - 1957) (by omega), show 1957 + (i - 1957) = i by omega])
  ok := h.ok
  own := h.own
  tm := fun j hj => h.tm j (hJ j hj)
  apart := fun r r' b h1 h2 => by
   rcases rl r b h1 with k1 | ⟨j, e1, hj, k1⟩ <;> rcases rl r' b h2 with k2 | ⟨j', e2, hj', k2⟩
   ·exact h.ap r r' b k1 k2
   ·have := h.slt r b k1; have := h.nw j' (hJ j' hj') b (.inl k2); omega
   ·have := h.slt r' b k2; have := h.nw j (hJ j hj) b (.inl k1); omega
   ·rw [e1, e2, (h.tap j j' b (hJ j hj) (hJ j' hj') k1).1 k2]
  zap := fun b ⟨j, hj, hz⟩ ⟨r, hr⟩ => by
   rcases rl r b hr with k1 | ⟨j', e1, hj', k1⟩
   ·have := h.slt r b k1; have := h.nw j (hJ j hj) b (.inr hz); omega
   ·exact (h.tap j' j b (hJ j' hj') (hJ j hj) k1).2 hz }
end
theorem TJ.again {base L : Nat} {s : StV} {T : Nat → Nat} {w0 w : World} {v0 v : Nat → TV} {m : Nat → Nat} {x : Nat → Nat → Nat} (h : TJ base L s T w0 v0 w v m x) : TJ base L s T w v w v m x :=
 { h with tc := Chg.refl _ _, tn := fun _ h => .inl h, tz := fun _ _ => rfl, D := fun _ _ => rfl, H := fun _ _ => rfl }
theorem TJ.trans {base L : Nat} {s : StV} {T : Nat → Nat} {w0 w w' : World} {v0 v v' : Nat → TV} {m m' : Nat → Nat} {x x' : Nat → Nat → Nat} (h : TJ base L s T w0 v0 w v m x) (k : TJ base L s T w v w' v' m' x') : TJ base L s T w0 v0 w' v' m' x' :=
 { k with
  tc := h.tc.trans k.tc h.tn
  tn := fun b hb => by
   rcases k.tn b hb with h1 | h1
   ·exact h.tn b h1
   ·exact .inr (lT h.tc.size h1)
  tz := fun j hj => (k.tz j hj).trans (h.tz j hj), D := fun j hj => (k.D j hj).trans (h.D j hj), H := fun j hj => (k.H j hj).trans (h.H j hj) }
theorem zmn (k : Nat) : ∀ j, j < 5 → lvC j (k + 1) = layM (lvC j k) (k / lvG j) := fun j hj => by
 unfold lvC layM
 rcases (show j = 0 ∨ j = 1 ∨ j = 2 ∨ j = 3 ∨ j = 4 by omega) with rfl | rfl | rfl | rfl | rfl
 all_goals
  simp only [lvG]
  simp only [if_true, if_false, show ((1 : Nat) = 0) = False from by simp, show ((2 : Nat) = 0) = False from by simp, show ((3 : Nat) = 0) = False from by simp, show ((4 : Nat) = 0) = False from by simp, show ((2 : Nat) = 1) = False from by simp, show ((3 : Nat) = 1) = False from by simp, show ((4 : Nat) = 1) = False from by simp, show ((3 : Nat) = 2) = False from by simp, show ((4 : Nat) = 2) = False from by simp, show ((4 : Nat) = 3) = False from by simp]
  split <;> omega
theorem zmo (k : Nat) : ∀ j, j < 5 → k / lvG j ≤ lvC j k := fun j _ => by
 unfold lvC
 exact Nat.div_le_div_right (by have := zim j; omega)
theorem zq1 (x : Nat → Nat) (k : Nat) : setN x k (fun q => x (k * 32 + q)) = x := by
 funext i
 unfold setN
 split
 ·show x (k * 32 + (i - k * 32)) = x i
  rw [show k * 32 + (i - k * 32) = i by omega]
 ·rfl
theorem zmp {s : StV} (k : Nat) : (∀ j, j < 5 → lvC j (k + 1) = tchM true (fun j => lvC j k) k j) ∧ (∀ j, j < 5 → lvX s j = tchX true (lvX s) (lvX s) k j) :=
 ⟨fun j hj => by unfold tchM; rw [if_neg (by simp)]; exact zmn k j hj, fun j _ => by unfold tchX; rw [if_neg (by simp)]; exact (zq1 _ _).symm⟩
namespace LiveFill
theorem stPtr (T : Nat) (w : World) (ad : Addr) (u : Value) (h : w.cell? ad = some u) (hf : w.frozen? ad = false) : (Instr.storeAt 68 (.pointer (some ad)) (tpV T)).run Tryd.prog w = .ok () (w.setCell ad (tpV T)) := by
 simp [go_sem, h, hf]
end LiveFill
open LiveFill in
theorem zla (base L n : Nat) (s : StV) (G : Nat → Value) (T0i : Nat → Nat) (v0 : Nat → TV) (w : World) (h : LB w w base L s G T0i v0 (fun _ => false)) (hn : n ≤ 65536) (hV : s.nV = n) (hB : s.nB = n) (hP : s.nP = n) (hC : s.nC = n) (hS : s.nS = n) (hp : ShaPkg w) (hpB : 0 < base ∧ 1 < base) :
 Calls Tryd.prog 18 #[.pointer (some ⟨L, 0, none⟩)] w fun r w' => ∃ T v, r = .returned (.tuple #[]) ∧ LM w' base L s T v ∧ Chg (fun b => b = L) w w' ∧ (∀ j, j < 5 → TSt (v j) (lvC j n) (lvX s j)) ∧ (∀ j, j < 5 → (v j).lim = lvL j) ∧ (∀ j, j < 5 → (v j).D = dep (lvL j)) ∧ (∀ j, j < 5 → (v j).H = 0) ∧ (∀ j, j < 5 → ∀ b, (v j).own (T j) b ∨ OnA (v j).zA b → w.heap.size ≤ b) := by
 have HL0 := Hd h
 have HP := Hd hp
 have HPB := Hd hpB
 have HF11 := Hd (show s.F 721 = .slice s.aV n s.cV by rw [h.ok.f11, hV])
 have HVs := Hd (show s.nV = n ∧ s.nB = n ∧ s.nP = n ∧ s.nC = n ∧ s.nS = n from ⟨hV, hB, hP, hC, hS⟩)
 have tk0 := Tok.mk 0
 have tk1 := Tok.mk 1
 have tk2 := Tok.mk 2
 have tk3 := Tok.mk 3
 have tk4 := Tok.mk 4
 clear h hp hpB hV hB hP hC hS
 go_enter Tryd.func18, Tryd.ntmps18
 go_upto_region 1 with (first
  | (go_at_call 49; clear tk0; refine (zfi 65536 (by omega) (by omega) _ (HL0.out.sha HP.out HPB.out)).mono ?_; rintro r wt0 ⟨T0, u0, rfl, hm, hst, hl, hH, hD, _, hb⟩; have HL1 := Hd (HL0.out.new_ (j := 0) (by rfl) hb hm ⟨hst, hl, hD, hH⟩); clear hm hst hl hD hH hb)
  | ((with_reducible refine at_l ?_); refine zdu rfl 68 (.tmp 6) (.tmp 4) rfl HL1.out.row 1957 (by omega) (tpV T0) (stPtr T0) rfl rfl ?_; have HL2 := Hd (HL1.out.sto 0 (by omega) (tpV T0)); clear HL1; generalize World.setCell _ _ _ = ws0 at HL2 ⊢))
 go_upto_region 2 with (first
  | (go_at_call 49; clear tk1; refine (zfi 16384 (by omega) (by omega) _ (HL2.out.sha HP.out HPB.out)).mono ?_; rintro r wt1 ⟨T1, u1, rfl, hm, hst, hl, hH, hD, _, hb⟩; have HL3 := Hd (HL2.out.new_ (j := 1) (by rfl) hb hm ⟨hst, hl, hD, hH⟩); clear hm hst hl hD hH hb)
  | (go_at_call 49; clear tk2; refine (zfi 16384 (by omega) (by omega) _ (HL3.out.sha HP.out HPB.out)).mono ?_; rintro r wt2 ⟨T4, u4, rfl, hm, hst, hl, hH, hD, _, hb⟩; have HL4 := Hd (HL3.out.new_ (j := 4) (by rfl) hb hm ⟨hst, hl, hD, hH⟩); clear hm hst hl hD hH hb)
  | ((with_reducible refine at_l ?_); first
   | (refine zdu rfl 68 (.tmp 12) (.tmp 9) rfl HL4.out.row 1958 (by omega) (tpV T1) (stPtr T1) rfl rfl ?_; have HL5 := Hd (HL4.out.sto 1 (by omega) (tpV T1)); clear HL4; generalize World.setCell _ _ _ = ws1 at HL5 ⊢)
   | (refine zdu rfl 68 (.tmp 14) (.tmp 10) rfl HL5.out.row 1961 (by omega) (tpV T4) (stPtr T4) rfl rfl ?_; have HL6 := Hd (HL5.out.sto 4 (by omega) (tpV T4)); clear HL5; generalize World.setCell _ _ _ = ws4 at HL6 ⊢)))
 go_upto_region 3 with (first
  | (go_at_call 49; clear tk3; refine (zfi 2048 (by omega) (by omega) _ (HL6.out.sha HP.out HPB.out)).mono ?_; rintro r wt3 ⟨T2, u2, rfl, hm, hst, hl, hH, hD, _, hb⟩; have HL7 := Hd (HL6.out.new_ (j := 2) (by rfl) hb hm ⟨hst, hl, hD, hH⟩); clear hm hst hl hD hH hb)
  | (go_at_call 49; clear tk4; refine (zfi 2048 (by omega) (by omega) _ (HL7.out.sha HP.out HPB.out)).mono ?_; rintro r wt4 ⟨T3, u3, rfl, hm, hst, hl, hH, hD, _, hb⟩; have HL8 := Hd (HL7.out.new_ (j := 3) (by rfl) hb hm ⟨hst, hl, hD, hH⟩); clear hm hst hl hD hH hb)
  | ((with_reducible refine at_l ?_); first
   | (refine zdu rfl 68 (.tmp 20) (.tmp 17) rfl HL8.out.row 1959 (by omega) (tpV T2) (stPtr T2) rfl rfl ?_; have HL9 := Hd (HL8.out.sto 2 (by omega) (tpV T2)); clear HL8; generalize World.setCell _ _ _ = ws2 at HL9 ⊢)
   | (refine zdu rfl 68 (.tmp 22) (.tmp 18) rfl HL9.out.row 1960 (by omega) (tpV T3) (stPtr T3) rfl rfl ?_; have HLz := Hd (HL9.out.sto 3 (by omega) (tpV T3)); clear HL9; generalize World.setCell _ _ _ = ws3 at HLz ⊢)))
 obtain ⟨TF, hTF⟩ : ∃ TF, TF = updX (updX (updX (updX (updX T0i 0 T0) 1 T1) 4 T4) 2 T2) 3 T3 := ⟨_, rfl⟩
 obtain ⟨VF, hVF⟩ : ∃ VF, VF = updX (updX (updX (updX (updX v0 0 u0) 1 u1) 4 u4) 2 u2) 3 u3 := ⟨_, rfl⟩
 rw [← hTF, ← hVF] at HLz
 have hlm := HLz.out.lm (five (by rfl) (by rfl) (by rfl) (by rfl) (by rfl)) (by rw [hTF]; exact five (by simp [updX]) (by simp [updX]) (by simp [updX]) (by simp [updX]) (by simp [updX]))
 have hnt := fun j hj => HLz.out.nt j (five (p := fun j => (if j = 3 then true else if j = 2 then true else if j = 4 then true else if j = 1 then true else if j = 0 then true else false) = true) (by rfl) (by rfl) (by rfl) (by rfl) (by rfl) j hj)
 have HNw := Hd (fun j hj => HLz.out.nw j (five (p := fun j => (if j = 3 then true else if j = 2 then true else if j = 4 then true else if j = 1 then true else if j = 0 then true else false) = true) (by rfl) (by rfl) (by rfl) (by rfl) (by rfl) j hj))
 have hTJ : TJ base L s TF ws3 VF ws3 VF (fun j => lvC j 0) (lvX s) := { lm := hlm, tc := Chg.refl _ _, tn := fun _ h => .inl h, tz := fun _ _ => rfl, st := fun j hj => by rw [show lvC j 0 = 0 from Nat.div_eq_of_lt (by have := zim j; omega)]; exact (hnt j hj).st.x_cong (fun i hi => by omega), lim := fun j hj => (hnt j hj).lim, D := fun _ _ => rfl, H := fun _ _ => rfl, sha := fun _ => HLz.out.sha HP.out HPB.out }
 have HTJ := Hd hTJ
 have HNT := Hd hnt
 have HCh := Hd HLz.out.chg
 have h721 := hlm.cell 721 (by omega)
 rw [HF11.out] at h721
 clear hTJ hnt hlm HLz HL2 HL3 HL6 HL7 hTF hVF
 go_wp2_with fail
 go_loopw [29] (fun i wr => ∃ (k : Nat) (v' : Nat → TV), i = .int .i64 (k : Int) ∧ k ≤ n ∧ TJ base L s TF ws3 VF wr v' (fun j => lvC j k) (lvX s)) (fun i _ => n - (intOf i).toNat)
 case atStart => exact ⟨0, VF, rfl, Nat.zero_le _, HTJ.out⟩
 case round =>
  clear HTJ h721
  obtain ⟨k, v', rfl, hk, hj⟩ := hrel
  have HJ := Hd hj
  clear hj
  by_cases h1 : k < n
  ·go_wp2_with (go_at_call 41; refine (zj4 base L n k s TF _ v' (fun j => lvC j k) (lvX s) HJ.out.again h1 hn HVs.out.1 HVs.out.2.1 HVs.out.2.2.1 HVs.out.2.2.2.1 HVs.out.2.2.2.2 (zmo k) HPB.out).mono ?_; rintro r w2 ⟨v2, rfl, hj2⟩; have HJ2 := Hd ((HJ.out.trans hj2).re (zmp (s := s) k).1 (zmp k).2); clear hj2)
   go_roundw
   case rel => exact ⟨k + 1, v2, by go_num, by omega, HJ2.out⟩
   case measure => simp [intOf]; omega
  ·obtain rfl : n = k := by omega
   go_wp2_with fail
   go_end0
   exact ⟨TF, v', rfl, HJ.out.lm, HCh.out.trans HJ.out.tc (fun b ⟨j, hj, ho⟩ => .inr (HNw.out j hj b (.inl ho))), HJ.out.st, HJ.out.lim, fun j hj => (HJ.out.D j hj).trans (HNT.out j hj).D, fun j hj => (HJ.out.H j hj).trans (HNT.out j hj).H, fun j hj b hb => by
    rcases hb with h1 | h1
    ·rcases HJ.out.tn b ⟨j, hj, h1⟩ with ⟨j2, hj2, h2⟩ | h2
     ·exact HNw.out j2 hj2 b (.inl h2)
     ·exact lT HCh.out.size h2
    ·rw [HJ.out.tz j hj] at h1; exact HNw.out j hj b (.inr h1)⟩

structure RightF (s : StV) : Prop where
 n : s.nV ≤ 65536
 nB : s.nB = s.nV
 nP : s.nP = s.nV
 nC : s.nC = s.nV
 nS : s.nS = s.nV
 nH : s.nH ≤ 1024
 nE : s.nE ≤ 8
 slot : nat (s.F 33) < 1099511627776
 dep : nat (s.F 720) < 1099511627776
 head : nat (s.F 43) ≤ nat (s.F 33)
 oldJ : nat (s.F 993) ≤ nat (s.F 33) / 4
 just : nat (s.F 1026) ≤ nat (s.F 33) / 4
 fin : nat (s.F 1059) ≤ nat (s.F 33) / 4
 val : ∀ i, i < s.nV → effF s.V i ≤ 32000000000 ∧ effF s.V i % 1000000000 = 0 ∧ epB (nat (s.V (i * 86 + 82))) = true ∧ epB (nat (s.V (i * 86 + 83))) = true ∧ epB (nat (s.V (i * 86 + 84))) = true ∧ epB (nat (s.V (i * 86 + 85))) = true ∧ nat (s.Sco i) ≤ 1099511627776
 bal : sumTo (fun i => nat (s.Bal i)) s.nB ≤ 144115188075855872
 sla : sumTo (fun i => nat (s.F (979 + i))) 8 ≤ 144115188075855872
def valOk (V Sco : Nat → Value) (i : Nat) : Prop := effF V i ≤ 32000000000 ∧ effF V i % 1000000000 = 0 ∧ epB (nat (V (i * 86 + 82))) = true ∧ epB (nat (V (i * 86 + 83))) = true ∧ epB (nat (V (i * 86 + 84))) = true ∧ epB (nat (V (i * 86 + 85))) = true ∧ nat (Sco i) ≤ 1099511627776

theorem F979 {F : Nat → Value} (h : Sc F 49) (i : Nat) (hi : i < 8) : F (979 + i) = .int .u64 ((nat (F (979 + i)) : Nat) : Int) ∧ nat (F (979 + i)) < 18446744073709551616 := by
 have h8 : i = 0 ∨ i = 1 ∨ i = 2 ∨ i = 3 ∨ i = 4 ∨ i = 5 ∨ i = 6 ∨ i = 7 := by omega
 rcases h8 with rfl | rfl | rfl | rfl | rfl | rfl | rfl | rfl <;> exact h.u64 _ (by kernel_rfl)
def CutB (v : Value) (p : Prop) : Prop := ∃ b, v = .bool b ∧ (b = false ↔ p)
def RightQ (s : StV) (w : World) (r : Ending) (w' : World) : Prop := ∃ b, r = .returned (.bool b) ∧ (b = true ↔ RightF s) ∧ Below w.heap.size w w'
theorem zmq (A : Option Addr) (n c : Nat) (z : Nat → Nat) (w : World) (B : Nat) (hr : Rd w B A n (fun i => .int .u64 ((z i : Nat) : Int))) (hz : ∀ i, i < n → z i < 18446744073709551616) (hn : n ≤ maxLen) :
 Calls Tryd.prog 43 #[.slice A n c] w fun r w' => r = .returned (.bool (sumB z n)) ∧ w' = w := by
 have HR := Hd hr
 have HZ := Hd hz
 unfold maxLen at hn
 clear hr hz
 go_enter Tryd.func43, Tryd.ntmps43
 go_wp2_with fail
 go_loopw [3, 8] (fun t i wr => ∃ k s : Nat, sumTo z k = s ∧ s ≤ 144115188075855872 ∧ t = .int .u64 ((144115188075855872 - s : Nat) : Int) ∧ i = .int .i64 (k : Int) ∧ k ≤ n ∧ wr = w) (fun _ i _ => n - (intOf i).toNat)
 case atStart => exact ⟨0, 0, rfl, Nat.zero_le _, rfl, rfl, Nat.zero_le _, rfl⟩
 case round =>
  obtain ⟨k, s, hs, hsl, rfl, rfl, hk, rfl⟩ := hrel
  by_cases h1 : k < n
  ·obtain ⟨ad, rfl, hb, hc⟩ := HR.out.at_ h1
   have hzk := HZ.out k h1
   have hst : sumTo z (k + 1) = s + z k := by show sumTo z k + z k = _; rw [hs]
   have HS' := Hd hs
   generalize z k = y at *
   have HST := Hd hst
   clear hst hs
   obtain ⟨q, hq⟩ : ∃ q, 144115188075855872 - s = q := ⟨_, rfl⟩
   rw [hq]
   have HQ := Hd hq
   by_cases h3 : y ≤ q
   ·have hd : decide ((q : Int) < (y : Int)) = false := decide_eq_false (by omega)
    have hsub : (q : Int) - (y : Int) = ((q - y : Nat) : Int) := by omega
    have hnq : ¬ (q : Int) < (y : Int) := by omega
    have h3' : s + y ≤ 144115188075855872 := by omega
    have hqy : q - y = 144115188075855872 - (s + y) := by omega
    have hq64 : q - y < 18446744073709551616 := by omega
    have hwr : IntKind.u64.wrap ((q : Int) - (y : Int)) = ((q - y : Nat) : Int) := by
     simp [IntKind.wrap, IntKind.bits, IntKind.signed]
     omega
    obtain ⟨p, hp⟩ : ∃ p, q - y = p := ⟨_, rfl⟩
    rw [hp] at hqy hwr
    have HQY := Hd hqy
    have HWR := Hd hwr
    clear hqy hwr hq hsub hp hq64
    go_wp2_with fail
    go_roundw
    case rel => exact ⟨k + 1, s + y, HST.out, h3', by rw [HWR.out, ← HQY.out], by go_num, by omega, True.intro⟩
    case measure => simp [intOf]; omega
   ·have hnq : (q : Int) < (y : Int) := by omega
    have hf : sumB z n = false := (zl1 HST.out (by omega) h1).symm
    have HF := Hd hf
    clear hq hf h3
    go_wp2_with fail
    go_ret
    exact ⟨zeh HF.out.symm, rfl⟩
  ·obtain rfl : n = k := by omega
   have HS' := Hd (show sumB z n = true from decide_eq_true (by rw [hs]; exact hsl))
   clear hs
   obtain ⟨q, hq⟩ : ∃ q, 144115188075855872 - s = q := ⟨_, rfl⟩
   rw [hq]
   clear hq
   go_wp2_with fail
   go_ret
   exact ⟨zeh HS'.out.symm, rfl⟩
end Go.Proofs.YtomilckcgmhfcaaDoor
