/- Lemmas that the proof stands on. -/
import Derived.Test.YtomilckcgmhfcaaDoorGLit23
import Derived.BigRegion
namespace Go.Proofs.YtomilckcgmhfcaaDoor
set_option maxRecDepth 40000
set_option maxHeartbeats 64000000
open Go.RowKit
def votX (V : Nat → Value) : Nat → Nat := fun i => eth1N (fun q => V (i / 32 * 65 + q)) (i % 32)
theorem zf0 (V : Nat → Value) : ∀ i, votX V i < 256 := fun _ => zml _ _
def bitsN (F : Nat → Value) : Nat → Nat := padN 1 (byteOf (fun i => bln (F (989 + i))) 4)
theorem zsv (F : Nat → Value) : ∀ i, bitsN F i < 256 := za6 (zh4 _ _)
def at_ (F : Nat → Value) (o : Nat) : Nat → Value := fun q => F (o + q)
def stC (s : StV) : Nat → Nat → Nat
  | 0 => numN s.F 0
  | 1 => byF s.F 1
  | 2 => numN s.F 33
  | 3 => forkN (at_ s.F 34)
  | 4 => headerN (at_ s.F 43)
  | 5 => treeN (dep 8) 8 (byF s.F 141)
  | 6 => treeN (dep 8) 8 (byF s.F 397)
  | 7 => lmixN (treeN (dep 1024) s.nH (b8 s.His)) s.nH
  | 8 => eth1N (at_ s.F 654)
  | 9 => lmixN (treeN (dep 8) s.nE (votX s.Vot)) s.nE
  | 10 => numN s.F 720
  | 11 => lmixN (treeN (dep 65536) (lvC 0 s.nV) (lvX s 0)) s.nV
  | 12 => lmixN (treeN (dep 16384) (lvC 1 s.nV) (lvX s 1)) s.nV
  | 13 => treeN (dep 8) 8 (byF s.F 723)
  | 14 => treeN (dep 2) 2 (numX 8 (at_ s.F 979))
  | 15 => lmixN (treeN (dep 2048) (lvC 2 s.nV) (lvX s 2)) s.nV
  | 16 => lmixN (treeN (dep 2048) (lvC 3 s.nV) (lvX s 3)) s.nV
  | 17 => bitsN s.F
  | 18 => checkN (at_ s.F 993)
  | 19 => checkN (at_ s.F 1026)
  | 20 => checkN (at_ s.F 1059)
  | 21 => lmixN (treeN (dep 16384) (lvC 4 s.nV) (lvX s 4)) s.nV
  | 22 => commN (at_ s.F 1093)
  | 23 => commN (at_ s.F 1525)
  | _ + 24 => fun _ => 0
theorem zwq (s : StV) (k : Nat) : ∀ i, stC s k i < 256 := by
 match k with
 | 0 => exact zc5 _ _
 | 1 => exact zbm _ _
 | 2 => exact zc5 _ _
 | 3 => exact zsq _
 | 4 => exact zo3 _
 | 5 => exact za9 (zbm _ _) _ _
 | 6 => exact za9 (zbm _ _) _ _
 | 7 => exact zek _ _
 | 8 => exact zml _
 | 9 => exact zek _ _
 | 10 => exact zc5 _ _
 | 11 => exact zek _ _
 | 12 => exact zek _ _
 | 13 => exact za9 (zbm _ _) _ _
 | 14 => exact za9 (zgs _ _) _ _
 | 15 => exact zek _ _
 | 16 => exact zek _ _
 | 17 => exact zsv _
 | 18 => exact zh1 _
 | 19 => exact zh1 _
 | 20 => exact zh1 _
 | 21 => exact zek _ _
 | 22 => exact zmm _
 | 23 => exact zmm _
 | _ + 24 => exact fun _ => by show 0 < 256; omega
def stX (s : StV) : Nat → Nat := fun i => stC s (i / 32) (i % 32)
theorem zmr (s : StV) : ∀ i, stX s i < 256 := fun _ => zwq s _ _
def stN (s : StV) : Nat → Nat := treeN (dep 24) 24 (stX s)
theorem zwr (s : StV) (k q : Nat) (h : q < 32) : stX s (k * 32 + q) = stC s k q := by
 unfold stX
 rw [show (k * 32 + q) / 32 = k by omega, show (k * 32 + q) % 32 = q by omega]
theorem zoa (s : StV) : padN (24 * 32) (stX s) = stX s := by
 funext i
 unfold padN
 by_cases h : i < 24 * 32
 ·rw [if_pos h]
 ·rw [if_neg h]
  unfold stX
  obtain ⟨k, hk⟩ : ∃ k, i / 32 = k + 24 := ⟨i / 32 - 24, by omega⟩
  rw [hk]; rfl
theorem zu3 (o n : Nat) (T : TypeId) (h : (List.range n).all (fun q => leafAt Tryd.prog 8 49 (o + q) == leafAt Tryd.prog 8 T q) = true) : ∀ q, q < n → leafAt Tryd.prog 8 49 (o + q) = leafAt Tryd.prog 8 T q := fun q hq => eq_of_beq (List.all_eq_true.1 h q (List.mem_range.2 hq))
theorem Sc.at_ {F : Nat → Value} (hF : Sc F 49) (o n : Nat) (T : TypeId) (h : (List.range n).all (fun q => leafAt Tryd.prog 8 49 (o + q) == leafAt Tryd.prog 8 T q) = true) (hout : ∀ q, n ≤ q → leafAt Tryd.prog 8 T q = none) : Sc (at_ F o) T := fun i l hl => by
 by_cases hi : i < n
 ·exact hF (o + i) l ((zu3 o n T h i hi).trans hl)
 ·rw [hout i (by omega)] at hl; cases hl
theorem zsw (w : World) (L bn bi bB m c i : Nat) (x : Nat) (u : Value) (h1 : w.cell? ⟨L, 722, none⟩ = some (.slice (some ⟨bB, 0, none⟩) m c)) (h2 : w.cell? ⟨bi, 0, none⟩ = some (.int .i64 (i : Int))) (h3 : w.cell? ⟨bn, 0, none⟩ = some (.int .u64 (x : Int)))
    (h4 : w.cell? ⟨bB, i, none⟩ = some u) (h5 : w.frozen? ⟨bB, i, none⟩ = false) (hi : i < m) :
    Calls Tryd.prog 22 #[.pointer (some ⟨L, 0, none⟩), .pointer (some ⟨bn, 0, none⟩), .pointer (some ⟨bi, 0, none⟩)] w fun r w' => r = .returned (.tuple #[]) ∧ ∃ d, w' = (w.setCell ⟨bB, i, none⟩ (.int .u64 (x : Int))).drewN d := by
 go_enter Tryd.func22, Tryd.ntmps22
 go_wp2
 go_region
 go_end0

 exact ⟨rfl, 1, rfl⟩
theorem zfk {w : World} {B : Nat} {A : Option Addr} {n : Nat} {f : Nat → Value} (h : Rd w B A (n * 1) f) : Rd w B A n f := by rwa [Nat.mul_one] at h
section
variable {w w' : World} {base L : Nat} {s : StV} {T : Nat → Nat} {v : Nat → TV}
theorem LM.others (h : LM w base L s T v) {r0 b : Nat} (hr : LRole L s T v r0 b) (hg : w.grownBy w' (some b)) : ∀ r k, LRole L s T v r k → r ≠ r0 → w'.heap[k]? = w.heap[k]? := fun r k hk hne =>
 hg.block k (h.role_lt r k hk) (fun e => by injection e with e; subst e; exact hne (h.apart r r0 k hk hr))
theorem LM.setB (h : LM w base L s T v) {b : Nat} (hA : s.aB = some ⟨b, 0, none⟩) {g : Nat → Value} (ho : OwnZ w' base 22 1 s.aB s.nB s.cB g) (hsc : ∀ i, i < s.nB → g i = .int .u64 ((nat (g i) : Nat) : Int) ∧ nat (g i) < 18446744073709551616) (hg : w.grownBy w' (some b)) : LM w' base L { s with Bal := g } T v ∧ Chg (fun b => OnA s.aB b) w w' := by
 have hk : ∀ r k, LRole L s T v r k → r ≠ 4 → w'.heap[k]? = w.heap[k]? := h.others (r0 := 4) ⟨_, hA, rfl⟩ hg
 have o : StOwn w' base { s with Bal := g } := ⟨h.own.H.blk fun ad e => hk 1 _ ⟨ad, e, rfl⟩ (by omega), h.own.E.blk fun ad e => hk 2 _ ⟨ad, e, rfl⟩ (by omega), h.own.V.blk fun ad e => hk 3 _ ⟨ad, e, rfl⟩ (by omega), ho, h.own.P.blk fun ad e => hk 5 _ ⟨ad, e, rfl⟩ (by omega), h.own.C.blk fun ad e => hk 6 _ ⟨ad, e, rfl⟩ (by omega), h.own.S.blk fun ad e => hk 7 _ ⟨ad, e, rfl⟩ (by omega)⟩
 refine ⟨{
  baseL := h.baseL
  row := h.row.of_block (hk 0 L rfl (by omega))
  ok := StOk.of_own (w := w') (s := { s with Bal := g }) (B := w'.heap.size) { h.ok with
   rV := (o.V).rd, rB := zfk o.B.rd, rP := zfk o.P.rd, rC := zfk o.C.rd, rS := zfk o.S.rd, rH := o.H.rd, rE := o.E.rd, scB := hsc } o
  own := o
  tm := fun j hj => (h.tm j hj).keep hg.size fun k hb => by
   rcases hb with h1 | h1
   ·exact hk (j + 8) k ⟨hj, h1⟩ (by omega)
   ·exact hg.block k ((h.tm j hj).zlt h1) (fun e => by injection e with e; exact h.zap k ⟨j, hj, h1⟩ ⟨4, ⟨b, 0, none⟩, hA, e.symm⟩)
  apart := h.apart
  zap := h.zap }, Chg.of_grown hg (fun k e => .inl ⟨⟨b, 0, none⟩, hA, by injection e⟩)⟩
end
def putC (f : Nat → Value) (i : Nat) (u : Value) : Nat → Value := fun j => if j = i then u else f j
theorem OwnZ.setI {w : World} {base n c b i d : Nat} {e : TypeId} {f : Nat → Value} (h : OwnZ w base e 1 (some ⟨b, 0, none⟩) n c f) (_hi : i < n) (u : Value) : OwnZ ((w.setCell ⟨b, i, none⟩ u).drewN d) base e 1 (some ⟨b, 0, none⟩) n c (putC f i u) := by
 obtain ⟨F, hr, hF, hb⟩ := h.row
 have h2 : ((w.setCell ⟨b, i, none⟩ u).drewN d).rowIs b e (c * 1) (fun j => if j = i then u else F j) := hr.set i u
 refine OwnZ.of_rowC h2 hb h.cap h.capM (fun j hj => ?_)
 unfold putC
 show (if j = i then u else F j) = _
 rw [hF j hj]
theorem zq4 {w : World} {b i d : Nat} {u : Value} : w.grownBy ((w.setCell ⟨b, i, none⟩ u).drewN d) (some b) := zng (zbv (World.grownBy.refl _ _) (.inl rfl) _) d
theorem OwnZ.cellO {w : World} {base n c b i : Nat} {e : TypeId} {f : Nat → Value} (h : OwnZ w base e 1 (some ⟨b, 0, none⟩) n c f) (hi : i < n) : w.cell? ⟨b, i, none⟩ = some (f i) ∧ w.frozen? ⟨b, i, none⟩ = false := by
 obtain ⟨F, hr, hF, hb⟩ := h.row
 have hc := h.cap
 exact ⟨by rw [hr.cell (by omega), hF i (by omega)], hr.frozen i⟩
theorem zu4 (w : World) (base L bn bi i x : Nat) (s : StV) (T : Nat → Nat) (v : Nat → TV) (h : LM w base L s T v) (h2 : w.cell? ⟨bi, 0, none⟩ = some (.int .i64 (i : Int))) (h3 : w.cell? ⟨bn, 0, none⟩ = some (.int .u64 (x : Int))) (hi : i < s.nB) (hx : x < 18446744073709551616) :
 Calls Tryd.prog 22 #[.pointer (some ⟨L, 0, none⟩), .pointer (some ⟨bn, 0, none⟩), .pointer (some ⟨bi, 0, none⟩)] w fun r w' => r = .returned (.tuple #[]) ∧ LM w' base L { s with Bal := putC s.Bal i (.int .u64 (x : Int)) } T v ∧ Chg (fun b => OnA s.aB b) w w' := by
 obtain ⟨b, hA⟩ := zde h.own.B (by omega)
 have ho := h.own.B
 rw [hA] at ho
 obtain ⟨c1, c2⟩ := ho.cellO hi
 refine (zsw w L bn bi b s.nB s.cB i x _ ((h.cell 722 (by omega)).trans (by rw [h.ok.f12, hA])) h2 h3 c1 c2 hi).mono ?_
 rintro r w' ⟨rfl, d, rfl⟩
 have h3 := h.setB hA (g := putC s.Bal i (.int .u64 (x : Int))) (by rw [hA]; exact ho.setI (d := d) hi _) (fun j hj => by
  unfold putC
  by_cases e : j = i
  ·rw [if_pos e]; exact ⟨by simp [nat], by simpa [nat] using hx⟩
  ·rw [if_neg e]; exact h.ok.scB j hj) zq4
 exact ⟨rfl, h3.1, h3.2⟩
structure UpdS (i : Nat) (s t : StV) : Prop where
 F : t.F = s.F
 V : t.V = s.V
 nV : t.nV = s.nV
 nB : t.nB = s.nB
 nP : t.nP = s.nP
 nC : t.nC = s.nC
 nS : t.nS = s.nS
 B : ∀ k, k ≠ i → t.Bal k = s.Bal k
 P : ∀ k, k ≠ i → t.Prv k = s.Prv k
 C : ∀ k, k ≠ i → t.Cur k = s.Cur k
 S : ∀ k, k ≠ i → t.Sco k = s.Sco k
theorem zhf {x y : Nat → Nat} {k : Nat} (h : ∀ q, ¬ (k * 32 ≤ q ∧ q < k * 32 + 32) → x q = y q) : setN x k (fun q => y (k * 32 + q)) = y := by
 funext q
 unfold setN
 split
 ·show y (k * 32 + (q - k * 32)) = y q
  rw [show k * 32 + (q - k * 32) = q by omega]
 ·exact h q (by assumption)
theorem zms {n i : Nat} {f g : Nat → Value} (h : ∀ k, k ≠ i → g k = f k) (q : Nat) (hq : ¬ (i / 4 * 32 ≤ q ∧ q < i / 4 * 32 + 32)) : numX n f q = numX n g q := by
 unfold numX padN LiveSmall.leS
 by_cases h1 : q < 8 * n
 ·rw [if_pos h1, if_pos h1]
  show leB (nat (f (q / 8))) _ = leB (nat (g (q / 8))) _
  rw [h (q / 8) (fun e => by omega)]
 ·rw [if_neg h1, if_neg h1]
theorem zmt {n i : Nat} {f g : Nat → Value} (h : ∀ k, k ≠ i → g k = f k) (q : Nat) (hq : ¬ (i / 32 * 32 ≤ q ∧ q < i / 32 * 32 + 32)) : bytX n f q = bytX n g q := by
 unfold bytX padN b8
 by_cases h1 : q < n
 ·rw [if_pos h1, if_pos h1, h q (fun e => by omega)]
 ·rw [if_neg h1, if_neg h1]
theorem zo6 {i : Nat} {s t : StV} (h : UpdS i s t) : ∀ j, j < 5 → lvX t j = tchX false (lvX s) (lvX t) i j :=
 five (show valX t.V = valX s.V by rw [h.V])
   (show numX t.nB t.Bal = setN (numX s.nB s.Bal) (i / 4) (fun q => numX t.nB t.Bal (i / 4 * 32 + q)) by rw [h.nB]; exact (zhf (zms h.B)).symm)
   (show bytX t.nP t.Prv = setN (bytX s.nP s.Prv) (i / 32) (fun q => bytX t.nP t.Prv (i / 32 * 32 + q)) by rw [h.nP]; exact (zhf (zmt h.P)).symm)
   (show bytX t.nC t.Cur = setN (bytX s.nC s.Cur) (i / 32) (fun q => bytX t.nC t.Cur (i / 32 * 32 + q)) by rw [h.nC]; exact (zhf (zmt h.C)).symm)
   (show numX t.nS t.Sco = setN (numX s.nS s.Sco) (i / 4) (fun q => numX t.nS t.Sco (i / 4 * 32 + q)) by rw [h.nS]; exact (zhf (zms h.S)).symm)
theorem zq5 {n i : Nat} (hi : i < n) : ∀ j, j < 5 → lvC j n = tchM false (fun j => lvC j n) i j := fun j _ => by
 have h1 : i / lvG j < lvC j n := by
  unfold lvC
  have hg := zim j
  rw [Nat.lt_iff_add_one_le, Nat.le_div_iff_mul_le hg]
  have := Nat.div_mul_le_self i (lvG j)
  rw [Nat.add_mul, Nat.one_mul]
  omega
 unfold tchM
 split
 ·rfl
 ·unfold layM; rw [if_pos h1]
theorem zsx {i n : Nat} (h : i ≤ n) (j : Nat) : lvC j i ≤ lvC j n := by
 unfold lvC
 exact Nat.div_le_div_right (by omega)
section
variable {P : Program}
theorem zmu {ops : Array Oper} {rest : List Oper} {o : Oper} {a : Act} {w : World} {Q : Exit → Act → World → Prop} (hgd : o.guard = none) {f : FuncId} (hent : ∀ vs w, (callFunc f vs).run P w = .ok (.enter f vs) w) {t : Tmp} {x : Operand} {ts : Array TypeId} {cap : Array Value} (ho : o.op = .call { callee := .value (.tmp t), args := #[x], argTypes := ts }) (ht : a.eval (.tmp t) = .func (.func f) #[] cap) (u : Value) (hx : a.eval x = u)
    (hr : Calls P f (#[u] ++ cap) w fun e w' => ∃ v, e = .returned v ∧ wpList P ops Q rest (a.put o.dst v) w') : wpList P ops Q (o :: rest) a w :=
 wpList_plain hgd fun _ hK' => by
  have hrun : (execOp a.eval o).run P w = .ok (.enter f (#[u] ++ cap)) w := by
   unfold execOp
   rw [ho]
   simp only [resolve, ht]
   simp [invoke, Deferred.ofValue, hx, hent]
  unfold Oper.wp
  rw [hrun]
  exact hr.mono fun e w' ⟨v, he, hk⟩ => by subst he; exact hK' _ _ hk
end
namespace LiveTurn
theorem zws (vs : Array Value) (w : World) : (callFunc 22 vs).run Tryd.prog w = .ok (.enter 22 vs) w := by kernel_rfl
end LiveTurn
theorem zsy (base L n : Nat) (i : Int) (own : Bool) (fv : Value) (s : StV) (T : Nat → Nat) (w : World) (v : Nat → TV) (h : LM w base L s T v) (hV : s.nV = n) (hi : i < 0 ∨ (n : Int) ≤ i) :
 Calls Tryd.prog 21 #[.pointer (some ⟨L, 0, none⟩), .int .i64 i, .bool own, fv] w fun r w' => r = .returned (.int .i64 1) ∧ w' = w := by
 have h721 := (h.cell 721 (by omega)).trans (congrArg some (show s.F 721 = .slice s.aV n s.cV by rw [h.ok.f11, hV]))
 clear h
 by_cases h0 : i < 0
 ·have t0 : decide (i < 0) = true := decide_eq_true h0
  go_enter Tryd.func21, Tryd.ntmps21
  go_wp2_with fail
  go_ret
  exact ⟨rfl, rfl⟩
 ·have t0 : decide (i < 0) = false := decide_eq_false h0
  have t1 : decide ((n : Int) ≤ i) = true := decide_eq_true (by omega)
  go_enter Tryd.func21, Tryd.ntmps21
  go_wp2_with fail
  go_ret
  exact ⟨rfl, rfl⟩
open LiveTurn in
theorem zu5 (base L n i h : Nat) (f : FuncId) (hent : ∀ vs w, (callFunc f vs).run Tryd.prog w = .ok (.enter f vs) w) (cap : Array Value) (S : Nat → Prop) (s t : StV) (T : Nat → Nat) (w : World) (v : Nat → TV) (hL : LV w base L s T v h) (hU : UpdS i s t) (hR : RightF t) (hV : s.nV = n) (hi : i < n) (hp : ShaPkg w) (hpB : 0 < base ∧ 1 < base)
    (hS : ∀ b, S b → LOwn L s T v b) (hT : ∀ b, LOwn L t T v b → LOwn L s T v b) (hw : ∀ w1, Below w.heap.size w w1 → Calls Tryd.prog f (#[.pointer (some ⟨L, 0, none⟩)] ++ cap) w1 fun r w2 => r = .returned (.tuple #[]) ∧ LM w2 base L t T v ∧ Chg S w1 w2) :
    Calls Tryd.prog 21 #[.pointer (some ⟨L, 0, none⟩), .int .i64 (i : Int), .bool false, .func (.func f) #[] cap] w fun r w' => ∃ v', r = .returned (.int .i64 0) ∧ LV w' base L t T v' h ∧ LStep w w' L s T v t T v' := by
 have hR0 := hL.right
 have hn : n ≤ 65536 := by rw [← hV]; exact hR0.n
 have HL := Hd hL.lm
 have HLV := Hd hL
 have HU := Hd hU
 have HR := Hd hR
 have HP := Hd hp
 have HPB := Hd hpB
 have HNV := Hd hV
 have HSs := Hd hS
 have HTs := Hd hT
 have HW := Hd hw
 have HEnt := Hd hent
 have hcnt : s.nB = n ∧ s.nP = n ∧ s.nC = n ∧ s.nS = n := ⟨hR0.nB.trans hV, hR0.nP.trans hV, hR0.nC.trans hV, hR0.nS.trans hV⟩
 have HCn := Hd hcnt
 obtain ⟨bV, hAV⟩ := zde hL.lm.own.V (by omega)
 obtain ⟨bB, hAB⟩ := zde hL.lm.own.B (by omega)
 obtain ⟨bP, hAP⟩ := zde hL.lm.own.P (by omega)
 obtain ⟨bC, hAC⟩ := zde hL.lm.own.C (by omega)
 obtain ⟨bS, hAS⟩ := zde hL.lm.own.S (by omega)
 have HAV := Hd hAV
 have HF11 := Hd (show s.F 721 = .slice (some ⟨bV, 0, none⟩) n s.cV by rw [hL.lm.ok.f11, hAV, hV])
 have HFB := Hd (show s.F 722 = .slice (some ⟨bB, 0, none⟩) n s.cB by rw [hL.lm.ok.f12, hAB, hcnt.1])
 have HCB := Hd (fun (wz : World) (hz : LM wz base L s T v) => show wz.cell? ⟨bB, i, none⟩ = some (s.Bal i) from by have ho := hz.own.B; rw [hAB] at ho; exact (ho.cellO (by omega)).1)
 have HFP := Hd (show s.F 987 = .slice (some ⟨bP, 0, none⟩) n s.cP by rw [hL.lm.ok.f15, hAP, hcnt.2.1])
 have HCP := Hd (fun (wz : World) (hz : LM wz base L s T v) => show wz.cell? ⟨bP, i, none⟩ = some (s.Prv i) from by have ho := hz.own.P; rw [hAP] at ho; exact (ho.cellO (by omega)).1)
 have HFC := Hd (show s.F 988 = .slice (some ⟨bC, 0, none⟩) n s.cC by rw [hL.lm.ok.f16, hAC, hcnt.2.2.1])
 have HCC := Hd (fun (wz : World) (hz : LM wz base L s T v) => show wz.cell? ⟨bC, i, none⟩ = some (s.Cur i) from by have ho := hz.own.C; rw [hAC] at ho; exact (ho.cellO (by omega)).1)
 have HFS := Hd (show s.F 1092 = .slice (some ⟨bS, 0, none⟩) n s.cS by rw [hL.lm.ok.f21, hAS, hcnt.2.2.2])
 have HCS := Hd (fun (wz : World) (hz : LM wz base L s T v) => show wz.cell? ⟨bS, i, none⟩ = some (s.Sco i) from by have ho := hz.own.S; rw [hAS] at ho; exact (ho.cellO (by omega)).1)
 have HScV := Hd (hL.lm.ok.scV i (by omega))
 have H1V := Hd (show ∀ q, q < 86 → (s.V (i * 86 + q)).oneCell' = true from fun q hq => StCopy.zei hL.lm.ok.scV (by kernel_rfl) _ (by omega))
 have h721 := (hL.lm.cell 721 (by omega)).trans (congrArg some HF11.out)
 have t0 : decide ((i : Int) < 0) = false := decide_eq_false (by omega)
 have t1 : decide ((n : Int) ≤ (i : Int)) = false := decide_eq_false (by omega)
 clear hL hU hR hV hp hpB hS hT hw hent hcnt hAV hAB hAP hAC hAS hR0
 go_enter Tryd.func21, Tryd.ntmps21
 go_upto_region 3 with fail
 clear t0 t1 h721
 refine zhy (l := [_, _, _, _, _, _, _, _, _, _, _, _, _, _, _, _, _, _, _, _, _, _, _, _, _, _, _, _, _, _, _, _, _, _, _, _, _, _, _, _, _, _, _, _, _, _]) (tl := []) (B := w.heap.size) (w0 := w) [OF.is (.pointer (some ⟨L, 0, none⟩)), OF.is (.pointer (some ⟨L, 0, none⟩)), OF.is (.pointer (some ⟨L, 0, none⟩)), OF.is (.pointer (some ⟨L, 721, none⟩)), OF.is (.slice (some ⟨bV, 0, none⟩) (n) (s.cV)), OF.is (.int .i64 ((i : Nat) : Int)), OF.is (.pointer (some ⟨bV, i * 86, none⟩)), OF.is (.agg (arr 86 fun q => s.V (i * 86 + q))), OF.is (.pointer (some ⟨L, 0, none⟩)), OF.is (.pointer (some ⟨L, 0, none⟩)), OF.is (.pointer (some ⟨L, 0, none⟩)), OF.is (.pointer (some ⟨L, 722, none⟩)), OF.is (.slice (some ⟨bB, 0, none⟩) (n) (s.cB)), OF.is (.int .i64 ((i : Nat) : Int)), OF.is (.pointer (some ⟨bB, i, none⟩)), OF.is (s.Bal i), OF.is (.pointer (some ⟨L, 0, none⟩)), OF.is (.pointer (some ⟨L, 0, none⟩)), OF.is (.pointer (some ⟨L, 0, none⟩)), OF.is (.pointer (some ⟨L, 1092, none⟩)), OF.is (.slice (some ⟨bS, 0, none⟩) (n) (s.cS)), OF.is (.int .i64 ((i : Nat) : Int)), OF.is (.pointer (some ⟨bS, i, none⟩)), OF.is (s.Sco i), OF.is (.pointer (some ⟨L, 0, none⟩)), OF.is (.pointer (some ⟨L, 0, none⟩)), OF.is (.pointer (some ⟨L, 0, none⟩)), OF.is (.pointer (some ⟨L, 987, none⟩)), OF.is (.slice (some ⟨bP, 0, none⟩) (n) (s.cP)), OF.is (.int .i64 ((i : Nat) : Int)), OF.is (.pointer (some ⟨bP, i, none⟩)), OF.is (s.Prv i), OF.is (.pointer (some ⟨L, 0, none⟩)), OF.is (.pointer (some ⟨L, 0, none⟩)), OF.is (.pointer (some ⟨L, 0, none⟩)), OF.is (.pointer (some ⟨L, 988, none⟩)), OF.is (.slice (some ⟨bC, 0, none⟩) (n) (s.cC)), OF.is (.int .i64 ((i : Nat) : Int)), OF.is (.pointer (some ⟨bC, i, none⟩)), OF.is (s.Cur i), OF.new w.heap.size 66 86 (fun q => (zeroOf Tryd.prog 66).getD q undef), OF.new w.heap.size 66 86 (fun q => s.V (i * 86 + q)), OF.is (s.Bal i), OF.is (s.Sco i), OF.is (s.Prv i), OF.is (s.Cur i)] [none, none, none, none, none, none, none, none, none, none, none, none, none, none, none, none, none, none, none, none, none, none, none, none, none, none, none, none, none, none, none, none, none, none, none, none, none, none, none, none, none, some 9, none, none, none, none] [false, false, false, false, false, false, false, false, false, false, false, false, false, false, false, false, false, false, false, false, false, false, false, false, false, false, false, false, false, false, false, false, false, false, false, false, false, false, false, false, true, false, false, false, false, false] (by kernel_rfl) (by kernel_rfl) rfl lR (Below.refl _ _) ⟨?_, ?_, ?_, ?_, ?_, ?_, ?_, ?_, ?_, ?_, ?_, ?_, ?_, ?_, ?_, ?_, ?_, ?_, ?_, ?_, ?_, ?_, ?_, ?_, ?_, ?_, ?_, ?_, ?_, ?_, ?_, ?_, ?_, ?_, ?_, ?_, ?_, ?_, ?_, ?_, ?_, ?_, ?_, ?_, ?_, ?_, trivial⟩ ?_
 ·exact zat (by simp) (zau ((zaa _ rfl (.inl rfl) rfl)))
 ·exact zat (by simp) (zau (zar _ rfl rfl (oT rfl)))
 ·exact zat (by simp) (zau (zal rfl rfl (oT rfl) (fun w => by simp [go_sem])))
 ·exact zat (by simp) (zau (zal rfl rfl (oT rfl) (fun w => by simp [go_sem])))
 ·exact zat (by simp) (zau (zad rfl rfl (oT rfl) (fun w' hb => PickDraw.za3 w' _ _ _ _ (((HL.out.below hb).cell 721 (by omega)).trans (congrArg some HF11.out)) Ty36)))
 ·exact zat (by simp) (zau ((zaa _ rfl (.inl rfl) rfl)))
 ·exact zat (by simp) (zau (zak rfl rfl (oT rfl) (oT rfl) (fun w => (zaw (z := 86) w Ty36 (by kernel_rfl) ⟨bV, 0, none⟩ hi).trans (by rw [zai]))))
 ·exact zat (by simp) (zau (zad rfl rfl (oT rfl) (fun w' hb => zax w' bV (i * 86) 86 66 _ (fun q => s.V (i * 86 + q)) (fun q hq => by have h := ((HL.out.below hb).ok.rV.cell_' HAV.out (show i * 86 + q < s.nV * 86 by rw [HNV.out]; omega)); rw [zai] at h; exact h) Ty66 rfl (by kernel_rfl))))
 ·exact zat (by simp) (zau ((zaa _ rfl (.inl rfl) rfl)))
 ·exact zat (by simp) (zau (zar _ rfl rfl (oT rfl)))
 ·exact zat (by simp) (zau (zal rfl rfl (oT rfl) (fun w => by simp [go_sem])))
 ·exact zat (by simp) (zau (zal rfl rfl (oT rfl) (fun w => by simp [go_sem])))
 ·exact zat (by simp) (zau (zad rfl rfl (oT rfl) (fun w' hb => PickDraw.za3 w' _ _ _ _ (((HL.out.below hb).cell 722 (by omega)).trans (congrArg some HFB.out)) Ty37)))
 ·exact zat (by simp) (zau ((zaa _ rfl (.inl rfl) rfl)))
 ·exact zat (by simp) (zau (zak rfl rfl (oT rfl) (oT rfl) (fun w => (zaw (z := 1) w Ty37 (by kernel_rfl) ⟨bB, 0, none⟩ hi).trans (by rw [zai, Nat.mul_one]))))
 ·exact zat (by simp) (zau (zad rfl rfl (oT rfl) (fun w' hb => zcf w' _ _ .u64 _ (HCB.out _ (HL.out.below hb)) Ty22)))
 ·exact zat (by simp) (zau ((zaa _ rfl (.inl rfl) rfl)))
 ·exact zat (by simp) (zau (zar _ rfl rfl (oT rfl)))
 ·exact zat (by simp) (zau (zal rfl rfl (oT rfl) (fun w => by simp [go_sem])))
 ·exact zat (by simp) (zau (zal rfl rfl (oT rfl) (fun w => by simp [go_sem])))
 ·exact zat (by simp) (zau (zad rfl rfl (oT rfl) (fun w' hb => PickDraw.za3 w' _ _ _ _ (((HL.out.below hb).cell 1092 (by omega)).trans (congrArg some HFS.out)) Ty37)))
 ·exact zat (by simp) (zau ((zaa _ rfl (.inl rfl) rfl)))
 ·exact zat (by simp) (zau (zak rfl rfl (oT rfl) (oT rfl) (fun w => (zaw (z := 1) w Ty37 (by kernel_rfl) ⟨bS, 0, none⟩ hi).trans (by rw [zai, Nat.mul_one]))))
 ·exact zat (by simp) (zau (zad rfl rfl (oT rfl) (fun w' hb => zcf w' _ _ .u64 _ (HCS.out _ (HL.out.below hb)) Ty22)))
 ·exact zat (by simp) (zau ((zaa _ rfl (.inl rfl) rfl)))
 ·exact zat (by simp) (zau (zar _ rfl rfl (oT rfl)))
 ·exact zat (by simp) (zau (zal rfl rfl (oT rfl) (fun w => by simp [go_sem])))
 ·exact zat (by simp) (zau (zal rfl rfl (oT rfl) (fun w => by simp [go_sem])))
 ·exact zat (by simp) (zau (zad rfl rfl (oT rfl) (fun w' hb => PickDraw.za3 w' _ _ _ _ (((HL.out.below hb).cell 987 (by omega)).trans (congrArg some HFP.out)) Ty39)))
 ·exact zat (by simp) (zau ((zaa _ rfl (.inl rfl) rfl)))
 ·exact zat (by simp) (zau (zak rfl rfl (oT rfl) (oT rfl) (fun w => (zaw (z := 1) w Ty39 (by kernel_rfl) ⟨bP, 0, none⟩ hi).trans (by rw [zai, Nat.mul_one]))))
 ·exact zat (by simp) (zau (zad rfl rfl (oT rfl) (fun w' hb => zcf w' _ _ .u8 _ (HCP.out _ (HL.out.below hb)) Ty5)))
 ·exact zat (by simp) (zau ((zaa _ rfl (.inl rfl) rfl)))
 ·exact zat (by simp) (zau (zar _ rfl rfl (oT rfl)))
 ·exact zat (by simp) (zau (zal rfl rfl (oT rfl) (fun w => by simp [go_sem])))
 ·exact zat (by simp) (zau (zal rfl rfl (oT rfl) (fun w => by simp [go_sem])))
 ·exact zat (by simp) (zau (zad rfl rfl (oT rfl) (fun w' hb => PickDraw.za3 w' _ _ _ _ (((HL.out.below hb).cell 988 (by omega)).trans (congrArg some HFC.out)) Ty39)))
 ·exact zat (by simp) (zau ((zaa _ rfl (.inl rfl) rfl)))
 ·exact zat (by simp) (zau (zak rfl rfl (oT rfl) (oT rfl) (fun w => (zaw (z := 1) w Ty39 (by kernel_rfl) ⟨bC, 0, none⟩ hi).trans (by rw [zai, Nat.mul_one]))))
 ·exact zat (by simp) (zau (zad rfl rfl (oT rfl) (fun w' hb => zcf w' _ _ .u8 _ (HCC.out _ (HL.out.below hb)) Ty5)))
 ·exact zat (by simp) (zhs w.heap.size rfl rfl (zeroOf Tryd.prog 66) (by kernel_rfl) 86 (fun q => (zeroOf Tryd.prog 66).getD q undef) (by kernel_rfl) (fun i hi => zi0 _ i (by rw [show (zeroOf Tryd.prog 66).size = 86 by kernel_rfl]; exact hi)) lR)
 ·exact zk7 w.heap.size lR rfl rfl rfl rfl rfl (by kernel_rfl) H1V.out
 ·exact zat (by simp) (zau ((zaa _ rfl (.inr rfl) rfl)))
 ·exact zat (by simp) (zau ((zaa _ rfl (.inr rfl) rfl)))
 ·exact zat (by simp) (zau ((zaa _ rfl (.inr rfl) rfl)))
 ·exact zat (by simp) (zau ((zaa _ rfl (.inr rfl) rfl)))
 ·intro w' hb
  simp only [finQ, OF.is, OF.new, forall_eq]
  simp only [pcX]
  rintro v9 ⟨b9, hv9, hb9, hr9⟩ hdis
  obtain rfl : v9 = .pointer (some ⟨b9, 0, none⟩) := hv9
  clear hdis hb9 hr9
  simp only [seqWp]
  have HB3 := Hd hb
  obtain ⟨w3, hw3⟩ : ∃ w3 : World, w3 = w' := ⟨_, rfl⟩
  subst hw3
  clear hb
  go_upto_region 5 with (((with_reducible refine at_l ?_)); refine zmu rfl HEnt.out rfl rfl (.pointer (some ⟨L, 0, none⟩)) rfl ((HW.out _ HB3.out).mono ?_); rintro r w4 ⟨rfl, hlm, hch⟩; have HL4 := Hd hlm; have HC4 := Hd hch; clear hlm hch; refine ⟨_, rfl, ?_⟩)
  have hst : LStep w w4 L s T v t T v := (LStep.refl HB3.out).trans ⟨HC4.out.mono (fun b _ hb => HSs.out b hb), fun b hb => .inl (HTs.out b hb), fun b hb => .inl hb⟩
  have HSt := Hd hst
  have HP4 := Hd (HP.out.belowB HPB.out (hst.below HL.out lR))
  clear hst
  go_wp2_with (first
   | ((with_reducible refine at_l ?_); refine zag rfl 49 (.tmp 77) rfl L 0 1957 t.F rfl _ (fun i hi => by rw [Nat.zero_add]; exact HL4.out.cell i hi) Ty49 rfl (by kernel_rfl) _ rfl ?_)
   | (go_at_call 16; refine (zef t _ HL4.out.ok).mono ?_; rintro r w5 ⟨b, rfl, hb, hbw⟩; obtain rfl : b = true := hb.2 HR.out; have HB5 := Hd hbw; clear hb hbw)
   | (go_at_call 41; have hn' : t.nV = n := HU.out.nV.trans HNV.out; have hTJ : TJ base L t T w5 v w5 v (fun j => lvC j n) (lvX s) := { lm := HL4.out.below HB5.out, tc := Chg.refl _ _, tn := fun _ h => .inl h, tz := fun _ _ => rfl, st := fun j hj => HNV.out ▸ HLV.out.st j hj, lim := HLV.out.lim, D := fun _ _ => rfl, H := fun _ _ => rfl, sha := fun _ => HP4.out.below HB5.out }; refine (ziy base L n i t T _ v _ _ hTJ hi hn hn' (HU.out.nB.trans HCn.out.1) (HU.out.nP.trans HCn.out.2.1) (HU.out.nC.trans HCn.out.2.2.1) (HU.out.nS.trans HCn.out.2.2.2) (fun j hj _ => lT (zmo i j hj) (zsx (Nat.le_of_lt hi) j)) HPB.out).mono ?_; clear hTJ; rintro r w6 ⟨v6, rfl, hj6⟩; have HJ6 := Hd (hj6.re (zq5 hi) (zo6 HU.out)); clear hj6 hn'))
  go_ret
  exact ⟨v6, rfl, ⟨HJ6.out.lm, fun j hj => by rw [HU.out.nV, HNV.out]; exact HJ6.out.st j hj, HJ6.out.lim, fun j hj => (HJ6.out.D j hj).trans (HLV.out.D j hj), fun j hj => by rw [HJ6.out.H j hj]; exact HLV.out.H j hj, HR.out⟩, (HSt.out.trans (LStep.refl HB5.out)).trans HJ6.out.ls⟩
theorem ze9 {P : Program} {ops : Array Oper} {rest : List Oper} {o : Oper} {a : Act} {w w0 : World} {Q : Exit → Act → World → Prop} {rows : List RowSpec} (hgd : o.guard = none) (ty : TypeId) (x : Operand) (d : Tmp) (_hd : o.dst = some d) (ho : o.op = .box ty x) (h : HS w0 w rows) (v : Value) (hv : v.cells = #[v]) (hx : a.eval x = v)
    (hK : ∀ b w', w0.heap.size ≤ b → w.heap.size ≤ b → HS w0 w' (⟨b, ty, 1, fun _ => v⟩ :: rows) → wpList P ops Q rest (a.put o.dst (.pointer (some ⟨b, 0, none⟩))) w') : wpList P ops Q (o :: rest) a w :=
 wpList_plain hgd fun _ hK' => by
  have hrun : (execOp a.eval o).run P w = .ok (.value (.pointer (some ⟨w.heap.size, 0, none⟩))) (w.alloc (.cells #[v] ty)) := by
   unfold execOp
   rw [ho]
   simp only [hx]
   simp [Instr.box, newVar, go_sem]
   exact congrArg (fun c => w.alloc (Obj.cells c ty)) hv
  unfold Oper.wp
  rw [hrun]
  exact hK' _ _ (hK _ _ h.size lR (h.alloc #[v] ty 1 (fun _ => v) rfl (fun i hi => by rw [show i = 0 by omega]; rfl)))
theorem LV.below {w w' : World} {base L h : Nat} {s : StV} {T : Nat → Nat} {v : Nat → TV} (k : LV w base L s T v h) (hb : Below w.heap.size w w') : LV w' base L s T v h := ⟨k.lm.below hb, k.st, k.lim, k.D, k.H, k.right⟩
open LiveTurn in
theorem zwt (base L i h x : Nat) (s : StV) (T : Nat → Nat) (w : World) (v : Nat → TV) (hL : LV w base L s T v h) (hi : i < s.nV) (hx : x < 18446744073709551616) (hR : RightF { s with Bal := putC s.Bal i (.int .u64 (x : Int)) }) (hp : ShaPkg w) (hpB : 0 < base ∧ 1 < base) :
 Calls Tryd.prog 8 #[.pointer (some ⟨L, 0, none⟩), .int .i64 (i : Int), .int .u64 (x : Int)] w fun r w' => ∃ v', r = .returned (.int .i64 0) ∧ LV w' base L { s with Bal := putC s.Bal i (.int .u64 (x : Int)) } T v' h ∧ LStep w w' L s T v { s with Bal := putC s.Bal i (.int .u64 (x : Int)) } T v' := by
 have HL := Hd hL
 have HR := Hd hR
 have HP := Hd hp
 have HPB := Hd hpB
 have HS0 := Hd (HS.nil w)
 obtain ⟨t, ht⟩ : ∃ t : StV, t = { s with Bal := putC s.Bal i (.int .u64 (x : Int)) } := ⟨_, rfl⟩
 have HT := Hd ht
 have HU := Hd (show UpdS i s t by rw [ht]; exact ⟨rfl, rfl, rfl, rfl, rfl, rfl, rfl, fun k hk => if_neg hk, fun _ _ => rfl, fun _ _ => rfl, fun _ _ => rfl⟩)
 rw [← ht] at HR ⊢
 have HN := Hd (show i < s.nB from (hL.right.nB).symm ▸ hi)
 clear hL hR hp hpB ht
 go_enter Tryd.func8, Tryd.ntmps8
 go_wp2_with (first
  | ((with_reducible refine at_l ?_); first
   | (refine ze9 rfl 3 _ 4 rfl rfl HS0.out (.int .i64 (i : Int)) rfl rfl ?_; intro b4 w1 hb4 hc4 hs; have HS1 := Hd hs; clear hs)
   | (refine ze9 rfl 22 _ 5 rfl rfl HS1.out (.int .u64 (x : Int)) rfl rfl ?_; intro b5 w2 hb5 hc5 hs; have HS2 := Hd hs; have h4 := hs.cell 1 0 rfl (by omega); clear hs)
   | (refine wpList_mkF rfl 9 rfl rfl #[.pointer (some ⟨b5, 0, none⟩), .pointer (some ⟨b4, 0, none⟩)] rfl ?_))
  | (go_at_call 21; have hb2 := HS2.out.out (by simp; omega); refine (zu5 base L s.nV i h 22 zws #[.pointer (some ⟨b5, 0, none⟩), .pointer (some ⟨b4, 0, none⟩)] (fun b => OnA s.aB b) s t T w2 v (HL.out.below hb2) HU.out HR.out rfl hi (HP.out.below hb2) HPB.out (fun b hb => ⟨4, hb⟩) (fun b hb => by rw [HT.out] at hb; exact hb) (fun wz hz => by rw [HT.out]; exact zu4 wz base L b5 b4 i x s T v ((HL.out.lm.below hb2).below hz) ((hz.cell (p := ⟨b4, 0, none⟩) (HS2.out.lt 1 rfl)).trans (HS2.out.cell 1 0 rfl (show 0 < 1 by omega))) ((hz.cell (p := ⟨b5, 0, none⟩) (HS2.out.lt 0 rfl)).trans (HS2.out.cell 0 0 rfl (show 0 < 1 by omega))) HN.out hx)).mono ?_; rintro r w3 ⟨v3, rfl, h1, h2⟩; have H1 := Hd h1; have H2 := Hd ((LStep.refl hb2).trans h2); clear h1 h2 hb2))
 go_ret
 exact ⟨v3, rfl, H1.out, H2.out⟩
theorem zu6 (base L n x : Nat) (i : Int) (s : StV) (T : Nat → Nat) (w : World) (v : Nat → TV) (hL : LM w base L s T v) (hV : s.nV = n) (hi : i < 0 ∨ (n : Int) ≤ i) :
 Calls Tryd.prog 8 #[.pointer (some ⟨L, 0, none⟩), .int .i64 i, .int .u64 (x : Int)] w fun r w' => r = .returned (.int .i64 1) ∧ Below w.heap.size w w' := by
 have HL := Hd hL
 have HS0 := Hd (HS.nil w)
 clear hL
 go_enter Tryd.func8, Tryd.ntmps8
 go_wp2_with (first
  | ((with_reducible refine at_l ?_); first
   | (refine ze9 rfl 3 _ 4 rfl rfl HS0.out (.int .i64 i) rfl rfl ?_; intro b4 w1 hb4 hc4 hs; have HS1 := Hd hs; clear hs)
   | (refine ze9 rfl 22 _ 5 rfl rfl HS1.out (.int .u64 (x : Int)) rfl rfl ?_; intro b5 w2 hb5 hc5 hs; have HS2 := Hd hs; have h4 := hs.cell 1 0 rfl (by omega); clear hs)
   | (refine wpList_mkF rfl 9 rfl rfl #[.pointer (some ⟨b5, 0, none⟩), .pointer (some ⟨b4, 0, none⟩)] rfl ?_))
  | (go_at_call 21; have hb2 := HS2.out.out (by simp; omega); refine (zsy base L n i false _ s T w2 v (HL.out.below hb2) hV hi).mono ?_; rintro r w3 ⟨rfl, rfl⟩; have H1 := Hd hb2; clear hb2))
 go_ret
 exact ⟨rfl, H1.out⟩
theorem zob {n : Nat} {f : Nat → Value} (h : ∀ i, i < n → Sc (fun q => f (i * 32 + q)) 24) {i : Nat} (hi : i < n * 32) : f i = u8v (b8 f) i := by
 have h1 := (h (i / 32) (by omega)).u8 (i % 32) (by
  have h2 : (List.range 32).all (fun q => leafAt Tryd.prog 8 24 q == some 5) = true := by kernel_rfl
  exact eq_of_beq (List.all_eq_true.1 h2 _ (List.mem_range.2 (Nat.mod_lt _ (by omega)))))
 have e : i / 32 * 32 + i % 32 = i := by omega
 simp only [e] at h1
 exact zhe h1
theorem zd7 {F : Nat → Value} (hF : Sc F 49) (o n : Nat) (h : (List.range n).all (fun q => leafAt Tryd.prog 8 49 (o + q) == some 5) = true) : ∀ i, i < n → F (o + i) = u8v (byF F o) i := fun i hi =>
 zwa hF o i (eq_of_beq (List.all_eq_true.1 h i (List.mem_range.2 hi)))
theorem zmv {F : Nat → Value} (hF : Sc F 49) (o n : Nat) (h : (List.range n).all (fun q => leafAt Tryd.prog 8 49 (o + q) == some 22) = true) : ∀ i, i < n → F (o + i) = u64v (fun q => nat (at_ F o q)) i := fun i hi =>
 (hF.u64 (o + i) (eq_of_beq (List.all_eq_true.1 h i (List.mem_range.2 hi)))).1
theorem zsz (X : Nat → Nat) : shaB (catN 32 (fun q => X (0 * 32 + q)) (fun q => X (1 * 32 + q))) 64 = treeN (dep 2) 2 X := by
 rw [show dep 2 = 1 by decide]
 have e : (fun q => X (0 * 32 + q)) = X := by funext q; rw [Nat.zero_mul, Nat.zero_add]
 rw [e]
 rfl
theorem zq6 (parts : List (Nat × Value)) : Tryd.prog.built 88 parts = Instr.fill (fun i => some (i * 32, 32)) (Array.replicate 1024 (.int .u8 0)) parts := by kernel_rfl
theorem zj5 (C : Nat → Nat → Nat) : ∀ (c m : Nat) (g : Nat → Value), (m + c) * 32 ≤ 1024 →
 Instr.fill (fun i => some (i * 32, 32)) (arr 1024 g) ((List.range' m c).map fun k => (k, rootV (C k))) = some (arr 1024 fun q => if m * 32 ≤ q ∧ q < (m + c) * 32 then u8v (C (q / 32)) (q % 32) else g q)
 | 0, m, g, _ => by
  rw [show (List.range' m 0) = [] from rfl, List.map_nil]
  unfold Instr.fill
  refine congrArg some (zca fun q _ => ?_)
  rw [if_neg (by omega)]
 | c + 1, m, g, h => by
  rw [List.range'_succ, List.map_cons, zlb (place := fun i => some (i * 32, 32)) (i := m) rfl (by omega), zj5 C c (m + 1) _ (by omega)]
  refine congrArg some (zca fun q _ => ?_)
  by_cases h1 : m * 32 ≤ q ∧ q < m * 32 + 32
  ·rw [if_neg (by omega), if_pos h1, if_pos (by omega)]
   rw [show q / 32 = m by omega, show q % 32 = q - m * 32 by omega]
  ·rw [if_neg h1]
   by_cases h2 : (m + 1) * 32 ≤ q ∧ q < (m + 1 + c) * 32
   ·rw [if_pos h2, if_pos (by omega)]
   ·rw [if_neg h2, if_neg (by omega)]
theorem zs0 (s : StV) : Tryd.prog.built 88 ((List.range' 0 24).map fun k => (k, rootV (stC s k))) = some (arr 1024 (u8v (stX s))) := by
 rw [zq6, show (Array.replicate 1024 (Value.int .u8 0)) = arr 1024 (u8v fun _ => 0) from zfb _ 1024 _ (by simp) (fun i hi => zbg 1024 (.int .u8 0) i hi), zj5 (stC s) 24 0 _ (by omega)]
 refine congrArg some (zca fun q _ => ?_)
 by_cases h : 0 * 32 ≤ q ∧ q < (0 + 24) * 32
 ·rw [if_pos h]; rfl
 ·rw [if_neg h, ← zoa]
  simp only [u8v, padN]
  rw [if_neg (by omega)]
theorem zgh (w : World) (b k : Nat) (hk : k < 32) : (Instr.indexAt 88 (.pointer (some ⟨b, 0, none⟩)) (.int .i64 (k : Int))).run Tryd.prog w = .ok (.pointer (some ⟨b, k * 32, none⟩)) w := by
 have hx : (k : Int) < 32 := by omega
 simp [go_sem, hx]
theorem zq7 {w : World} {base T b : Nat} {v : TV} (h : TM w base T v) (hb : v.own T b) : ∃ t m g, w.rowIs b t m g ∧ t ≠ 88 := by
 obtain ⟨r, hr⟩ := hb
 match r, hr with
 | 0, hr => rw [show b = T from hr]; exact ⟨_, _, _, h.row, by decide⟩
 | 1, hr => rw [show b = v.lb from hr]; obtain ⟨F, hF, _⟩ := h.lrow; exact ⟨_, _, F, hF, by decide⟩
 | 2, hr => obtain ⟨m, g, k⟩ := zcy h.dr hr; exact ⟨_, m, g, k, by decide⟩
 | k + 3, hr => obtain ⟨m, g, k⟩ := zcy (h.lv k hr.1) hr.2; exact ⟨_, m, g, k, by decide⟩
theorem zwu {w : World} {base L b : Nat} {s : StV} {T : Nat → Nat} {v : Nat → TV} (h : LM w base L s T v) (hb : LOwn L s T v b) : ∃ t m g, w.rowIs b t m g ∧ t ≠ 88 := by
 obtain ⟨r, hr⟩ := hb
 match r, hr with
 | 0, hr => rw [show b = L from hr]; exact ⟨_, _, _, h.row, by decide⟩
 | 1, hr => obtain ⟨m, g, k⟩ := zcy h.own.H hr; exact ⟨_, m, g, k, by decide⟩
 | 2, hr => obtain ⟨m, g, k⟩ := zcy h.own.E hr; exact ⟨_, m, g, k, by decide⟩
 | 3, hr => obtain ⟨m, g, k⟩ := zcy h.own.V hr; exact ⟨_, m, g, k, by decide⟩
 | 4, hr => obtain ⟨m, g, k⟩ := zcy h.own.B hr; exact ⟨_, m, g, k, by decide⟩
 | 5, hr => obtain ⟨m, g, k⟩ := zcy h.own.P hr; exact ⟨_, m, g, k, by decide⟩
 | 6, hr => obtain ⟨m, g, k⟩ := zcy h.own.C hr; exact ⟨_, m, g, k, by decide⟩
 | 7, hr => obtain ⟨m, g, k⟩ := zcy h.own.S hr; exact ⟨_, m, g, k, by decide⟩
 | j + 8, hr => exact zq7 (h.tm j hr.1) hr.2
theorem zmw {w : World} {b n m : Nat} {t u : TypeId} {f g : Nat → Value} (h : w.rowIs b t n f) (k : w.rowIs b u m g) : t = u := by
 obtain ⟨c, h1, _⟩ := h
 obtain ⟨d, h2, _⟩ := k
 rw [h1] at h2
 injection h2 with h2
 injection h2
theorem zq8 {w : World} {base L b n : Nat} {s : StV} {T : Nat → Nat} {v : Nat → TV} {f : Nat → Value} (h : LM w base L s T v) (hr : w.rowIs b 88 n f) : ¬ LOwn L s T v b := fun hb => by
 obtain ⟨t, m, g, k, hn⟩ := zwu h hb
 exact hn (zmw k hr)
def RKeep (w w' : World) : Prop := ∀ b n f, w.rowIs b 88 n f → w'.rowIs b 88 n f
structure RJ (base L h : Nat) (s : StV) (T : Nat → Nat) (v : Nat → TV) (w0 : World) (k : Nat) (w : World) : Prop where
 ex : ∃ u, LV w base L s T u (h + k * 70000) ∧ LStep w0 w L s T v s T u ∧ ∀ j, j < 5 → (u j).zA = (v j).zA
section
variable {base L h k : Nat} {s : StV} {T : Nat → Nat} {v : Nat → TV} {w0 w w' : World}
theorem RJ.below (hj : RJ base L h s T v w0 k w) (hb : Below w.heap.size w w') : RJ base L h s T v w0 k w' := by
 obtain ⟨u, h1, h2, h3⟩ := hj.ex
 exact ⟨u, h1.below hb, h2.trans (LStep.refl hb), h3⟩
theorem RJ.cell (hj : RJ base L h s T v w0 k w) (hb : Below w.heap.size w w') (i : Nat) (hi : i < 1957) : w'.cell? ⟨L, i, none⟩ = some (s.F i) := by
 obtain ⟨u, h1, _⟩ := hj.ex
 exact (h1.lm.below hb).cell i hi
theorem RJ.ptr (hj : RJ base L h s T v w0 k w) (hb : Below w.heap.size w w') (i : Nat) (hi : i < 5) : w'.cell? ⟨L, 1957 + i, none⟩ = some (tpV (T i)) := by
 obtain ⟨u, h1, _⟩ := hj.ex
 exact (h1.lm.below hb).ptr i hi
theorem RJ.low (hj : RJ base L h s T v w0 k w) (hm : LM w0 base L s T v) (hb : Below w.heap.size w w') : Below base w0 w' := by
 obtain ⟨u, h1, h2, _⟩ := hj.ex
 exact (h2.below hm lR).trans (hb.mono h1.lm.bw)
theorem RJ.row (hj : RJ base L h s T v w0 k w) (hb : Below w.heap.size w w') {b n : Nat} {t : TypeId} {f : Nat → Value} (hr : w0.rowIs b t n f) (hn : ¬ LOwn L s T v b) : w'.rowIs b t n f := by
 obtain ⟨u, _, h2, _⟩ := hj.ex
 have h3 := h2.chg.row hr hn
 exact zaj h3 hb h3.lt
theorem zwv {n : Nat} (hn : n ≤ 65536) : ∀ j, j < 5 → lvC j n ≤ 65536 ∧ dep (lvL j) ≤ 16 := five
  ⟨by unfold lvC lvG; simp; omega, zd4 (by decide)⟩ ⟨by unfold lvC lvG; simp; omega, zd4 (by decide)⟩ ⟨by unfold lvC lvG; simp; omega, zd4 (by decide)⟩ ⟨by unfold lvC lvG; simp; omega, zd4 (by decide)⟩ ⟨by unfold lvC lvG; simp; omega, zd4 (by decide)⟩
theorem RJ.list (hj : RJ base L h s T v w0 k w) (hm : LM w0 base L s T v) (j : Nat) (hj5 : j < 5) (hk : k < 5) (hh : h ≤ 576460752303423488) (hp : ShaPkg w0) (hpB : 0 < base ∧ 1 < base) (hpt : TzPkg w0) (htB : 2 < base) :
 Calls Tryd.prog 32 #[tpV (T j), .int .i64 (s.nV : Int)] w fun r w' => ∃ e, r = .returned e ∧ e = rootV (lmixN (treeN (dep (lvL j)) (lvC j s.nV) (lvX s j)) s.nV) ∧ RJ base L h s T v w0 (k + 1) w' ∧ RKeep w w' := by
 have hlow := hj.low hm (Below.refl _ _)
 obtain ⟨u, h1, h2, h3⟩ := hj.ex
 have hn := h1.right.n
 obtain ⟨hl, hd⟩ := zwv hn j hj5
 have hHj := h1.H j hj5
 have hDj := h1.D j hj5
 refine (zqy (u j) base (T j) (lvC j s.nV) s.nV (lvX s j) w (h1.lm.tm j hj5) (h1.st j hj5) (zwk s j) (by omega) (by omega) (hp.base hpB hlow) hpB h1.lm.bw (hpt.below hlow htB)).mono ?_
 rintro r w' ⟨v', rfl, m1, m2, m3, m4⟩
 obtain ⟨m5, m6⟩ := h1.lm.tree hj5 m1 m2
 refine ⟨_, rfl, by rw [hDj], ⟨updX u j v', ⟨m5, fun i hi => ?_, fun i hi => ?_, fun i hi => ?_, fun i hi => ?_, h1.right⟩, h2.trans m6, fun i hi => ?_⟩, fun b n f hr => m2.chg.row hr fun ho => ?_⟩
 ·unfold updX; split
  ·rename_i e; subst e; exact m3
  ·exact h1.st i hi
 ·unfold updX; split
  ·rename_i e; subst e; rw [m2.lim]; exact h1.lim i hi
  ·exact h1.lim i hi
 ·unfold updX; split
  ·rename_i e; subst e; rw [m2.D]; exact h1.D i hi
  ·exact h1.D i hi
 ·have h9 := h1.H i hi
  clear hh hp hpB hpt htB hlow
  unfold updX; split
  ·rename_i e; subst e
   rw [hDj] at m4
   have h8 := m4
   clear m1 m2 m3 m4 m5 m6 h1 h2 h3
   rw [Nat.add_mul]; omega
  ·exact lT h9 (Nat.add_le_add_left (Nat.mul_le_mul_right _ (Nat.le_succ k)) h)
 ·unfold updX; split
  ·rename_i e; subst e; rw [m2.zA]; exact h3 i hi
  ·exact h3 i hi
 ·obtain ⟨t, m, g, k1, hne⟩ := zq7 (h1.lm.tm j hj5) ho
  exact hne (zmw k1 hr)
theorem zbl {P : Program} {f n : Nat} {t : TypeId} {fs : Array Field} (hu : P.underlying t = some (.struct fs)) (hall : fs.toList.all (fun x => decide (x.offset + P.cellsOf x.type ≤ n)) = true) : ∀ q, n ≤ q → leafAt P (f + 1) t q = none := fun q hq => by
 unfold leafAt
 rw [hu]
 simp only
 rw [List.find?_eq_none.2 (fun x hx => by
  have := of_decide_eq_true (List.all_eq_true.1 hall x hx)
  simp; omega)]
 rfl
theorem RJ.rd (hj : RJ base L h s T v w0 k w) (hb : Below w.heap.size w w') (o n : Nat) (f : Nat → Value) (ho : o + n ≤ 1957) (hf : ∀ i, i < n → s.F (o + i) = f i) : Rd w' w'.heap.size (some ⟨L, o, none⟩) n f := fun _ => by
 obtain ⟨u, h1, _⟩ := hj.ex
 refine ⟨⟨L, o, none⟩, rfl, (h1.lm.below hb).row.lt, fun i hi => ?_⟩
 rw [← hf i hi, ← hj.cell hb (o + i) (by omega)]
 unfold Addr.add
 split
 ·rename_i e; subst e; rfl
 ·rfl
theorem RJ.done {S : Nat → Prop} {wA w2 : World} (hj : RJ base L h s T v w0 5 w) (hA : LM wA base L s T v) (hw : Below wA.heap.size wA w0) (hc : Chg S w w2) (hS : ∀ b, S b → wA.heap.size ≤ b ∧ (b < w0.heap.size ∨ ∃ n f, w.rowIs b 88 n f)) : ∃ u, LV w2 base L s T u (h + 400000) ∧ LStep wA w2 L s T v s T u := by
 obtain ⟨u, h1, h2, h3⟩ := hj.ex
 have hzz : ∀ b, LZer u b → LZer v b := fun b ⟨j, hj, hz⟩ => ⟨j, hj, by rw [← h3 j hj]; exact hz⟩
 refine ⟨u, ⟨h1.lm.chg hc fun b hb hs => ?_, h1.st, h1.lim, h1.D, fun j hj => ?_, h1.right⟩, ?_⟩
 ·obtain ⟨g1, g2⟩ := hS b hs
  rcases hb with hb | hb
  ·rcases g2 with g2 | ⟨n, f, g2⟩
   ·rcases h2.newO b hb with k1 | k1
    ·have := hA.lt k1; omega
    ·omega
   ·exact zq8 h1.lm g2 hb
  ·have := hA.zlt (hzz b hb); omega
 ·have := h1.H j hj; omega
 ·have h4 := (LStep.refl (L := L) (s := s) (T := T) (v := v) hw).trans h2
  exact ⟨h4.chg.trans hc (fun b hb => .inr (hS b hb).1), h4.newO, h4.newZ⟩
end
section
variable {P : Program} {ops : Array Oper} {B : Nat} {w0 : World} {o : Oper} {lk : Tmp → SF}
def OpKs (lk : Tmp → SF) : List (Nat × Operand) → List (Nat × Value) → Prop
  | [], [] => True
  | (i, x) :: xs, (j, v) :: vs => i = j ∧ OpK lk x v ∧ OpKs lk xs vs
  | _, _ => False
theorem OpKs.nil : OpKs lk [] [] := trivial
theorem OpKs.cons {i : Nat} {x : Operand} {v : Value} {xs : List (Nat × Operand)} {vs : List (Nat × Value)} (h : OpK lk x v) (k : OpKs lk xs vs) : OpKs lk ((i, x) :: xs) ((i, v) :: vs) := ⟨rfl, h, k⟩
theorem OpKs.eval {a : Act} {w : World} : ∀ (xs : List (Nat × Operand)) (vs : List (Nat × Value)), OpKs lk xs vs → Opd lk o a w → (∀ p, p ∈ xs → p.2 ∈ o.op.operands) → xs.map (fun p => (p.1, a.eval p.2)) = vs
  | [], [], _, _, _ => rfl
  | [], _ :: _, h, _, _ => h.elim
  | _ :: _, [], h, _, _ => h.elim
  | (i, x) :: xs, (j, v) :: vs, h, hf, hm => by
   obtain ⟨rfl, h1, h2⟩ := h
   rw [List.map_cons, OpKs.eval xs vs h2 hf (fun p hp => hm p (List.mem_cons_of_mem _ hp)), h1.eval hf (hm (i, x) (List.mem_cons_self ..))]
theorem zo7 {t : TypeId} {parts : Array (Nat × Operand)} {vs : List (Nat × Value)} {cs : Array Value} (hg : o.guard = none) (hop : o.op = .build t parts) (hx : OpKs lk parts.toList vs) (hb : P.built t vs = some cs) : opOb P ops B w0 o (sI (.agg cs)) lk :=
 zbw _ hg fun a w _ hf => TreeCopy.zsn t parts hop vs (OpKs.eval parts.toList vs hx hf (fun p hp => by rw [hop]; simp [Op.operands]; exact ⟨p.1, Array.mem_def.2 hp⟩)) cs hb
end
theorem zu7 (s : StV) : ∀ i, i < 32 → fullN 5 (stX s) i = stN s i := fun i hi => by
 have h := zfh (dep 24) 24 (stX s) (zb5 24) i hi
 rw [zoa] at h
 have e : dep 24 = 5 := by decide
 unfold stN
 rw [h, e]
theorem HS.chg {w0 w : World} {rows : List RowSpec} (h : HS w0 w rows) : Chg (fun b => ∃ r, r ∈ rows ∧ r.b = b) w0 w := ⟨h.os, h.tape, h.output, h.size, fun k hk hn => h.block k hk (fun r hr e => hn ⟨r, hr, e⟩)⟩
theorem zo8 (s : StV) (XH XE XB : Nat → Nat) (h7 : XH = treeN (dep 1024) s.nH (b8 s.His)) (h9 : XE = treeN (dep 8) s.nE (votX s.Vot)) (h17 : XB = bitsN s.F) : Tryd.prog.built 88 [(0, rootV (numN s.F 0)), (1, rootV (byF s.F 1)), (2, rootV (numN s.F 33)), (3, rootV (forkN (at_ s.F 34))), (4, rootV (headerN (at_ s.F 43))), (5, rootV (treeN (dep 8) 8 (byF s.F 141))), (6, rootV (treeN (dep 8) 8 (byF s.F 397))), (7, rootV (lmixN XH s.nH)), (8, rootV (eth1N (at_ s.F 654))), (9, rootV (lmixN XE s.nE)), (10, rootV (numN s.F 720)), (11, rootV (lmixN (treeN (dep (lvL 0)) (lvC 0 s.nV) (lvX s 0)) s.nV)), (12, rootV (lmixN (treeN (dep (lvL 1)) (lvC 1 s.nV) (lvX s 1)) s.nV)), (13, rootV (treeN (dep 8) 8 (byF s.F 723))), (14, rootV (shaB (catN 32 (fun q => numX 8 (at_ s.F 979) (0 * 32 + q)) (fun q => numX 8 (at_ s.F 979) (1 * 32 + q))) 64)), (15, rootV (lmixN (treeN (dep (lvL 2)) (lvC 2 s.nV) (lvX s 2)) s.nV)), (16, rootV (lmixN (treeN (dep (lvL 3)) (lvC 3 s.nV) (lvX s 3)) s.nV)), (17, rootV XB), (18, rootV (checkN (at_ s.F 993))), (19, rootV (checkN (at_ s.F 1026))), (20, rootV (checkN (at_ s.F 1059))), (21, rootV (lmixN (treeN (dep (lvL 4)) (lvC 4 s.nV) (lvX s 4)) s.nV)), (22, rootV (commN (at_ s.F 1093))), (23, rootV (commN (at_ s.F 1525)))] = some (arr 1024 (u8v (stX s))) := by
 rw [h7, h9, h17, zsz, ← zs0 s]
 rfl
end Go.Proofs.YtomilckcgmhfcaaDoor
