/- A part of what the proofs stand on: LiveSpec, LiveWork, LiveSet, LiveTurn, LiveBal. -/
import Derived.Test.YtomilckcgmhfcaaDoorGLiv1
import Derived.Test.YtomilckcgmhfcaaDoorGLiv22
import Derived.BigRegion
import Derived.Test.YtomilckcgmhfcaaDoorGLiv17
import Derived.Test.YtomilckcgmhfcaaDoorGLiv9
/- The root of a state: its 24 chunks. -/
namespace Go.Proofs.YtomilckcgmhfcaaDoor
set_option maxRecDepth 40000
open Go.RowKit
/-- The roots of votes, one behind the other. -/
def votX (V : Nat → Value) : Nat → Nat := fun i => eth1N (fun q => V (i / 32 * 65 + q)) (i % 32)
theorem votX_lt (V : Nat → Value) : ∀ i, votX V i < 256 := fun _ => eth1N_lt _ _
/-- The bits, as a chunk. -/
def bitsN (F : Nat → Value) : Nat → Nat := padN 1 (byteOf (fun i => bln (F (989 + i))) 4)
theorem bitsN_lt (F : Nat → Value) : ∀ i, bitsN F i < 256 := padN_lt (byteOf_lt _ _)
def at_ (F : Nat → Value) (o : Nat) : Nat → Value := fun q => F (o + q)
/-- The chunks of a state. -/
def stC (s : StV) : Nat → Nat → Nat
 | 0 => numN s.F 0
 | 1 => byF s.F 1
 | 2 => numN s.F 33
 | 3 => forkN (at_ s.F 34)
 | 4 => headerN (at_ s.F 43)
 | 5 => treeN (dep 8) 8 (byF s.F 141)
 | 6 => treeN (dep 8) 8 (byF s.F 397)
 | 7 => lmixN (treeN (dep 1024) s.nH (b8 s.His)) s.nH
 | 8 => eth1N (at_ s.F 654)
 | 9 => lmixN (treeN (dep 8) s.nE (votX s.Vot)) s.nE
 | 10 => numN s.F 720
 | 11 => lmixN (treeN (dep 65536) (lvC 0 s.nV) (lvX s 0)) s.nV
 | 12 => lmixN (treeN (dep 16384) (lvC 1 s.nV) (lvX s 1)) s.nV
 | 13 => treeN (dep 8) 8 (byF s.F 723)
 | 14 => treeN (dep 2) 2 (numX 8 (at_ s.F 979))
 | 15 => lmixN (treeN (dep 2048) (lvC 2 s.nV) (lvX s 2)) s.nV
 | 16 => lmixN (treeN (dep 2048) (lvC 3 s.nV) (lvX s 3)) s.nV
 | 17 => bitsN s.F
 | 18 => checkN (at_ s.F 993)
 | 19 => checkN (at_ s.F 1026)
 | 20 => checkN (at_ s.F 1059)
 | 21 => lmixN (treeN (dep 16384) (lvC 4 s.nV) (lvX s 4)) s.nV
 | 22 => commN (at_ s.F 1093)
 | 23 => commN (at_ s.F 1525)
 | _ + 24 => fun _ => 0
theorem stC_lt (s : StV) (k : Nat) : ∀ i, stC s k i < 256 := by
 match k with
 | 0 => exact numN_lt _ _
 | 1 => exact byF_lt _ _
 | 2 => exact numN_lt _ _
 | 3 => exact forkN_lt _
 | 4 => exact headerN_lt _
 | 5 => exact treeN_lt (byF_lt _ _) _ _
 | 6 => exact treeN_lt (byF_lt _ _) _ _
 | 7 => exact lmixN_lt _ _
 | 8 => exact eth1N_lt _
 | 9 => exact lmixN_lt _ _
 | 10 => exact numN_lt _ _
 | 11 => exact lmixN_lt _ _
 | 12 => exact lmixN_lt _ _
 | 13 => exact treeN_lt (byF_lt _ _) _ _
 | 14 => exact treeN_lt (numX_lt _ _) _ _
 | 15 => exact lmixN_lt _ _
 | 16 => exact lmixN_lt _ _
 | 17 => exact bitsN_lt _
 | 18 => exact checkN_lt _
 | 19 => exact checkN_lt _
 | 20 => exact checkN_lt _
 | 21 => exact lmixN_lt _ _
 | 22 => exact commN_lt _
 | 23 => exact commN_lt _
 | _ + 24 => exact fun _ => by show 0 < 256; omega
/-- The chunks one behind the other; the root. -/
def stX (s : StV) : Nat → Nat := fun i => stC s (i / 32) (i % 32)
theorem stX_lt (s : StV) : ∀ i, stX s i < 256 := fun i => stC_lt s _ _
def stN (s : StV) : Nat → Nat := treeN (dep 24) 24 (stX s)
theorem stX_pad (s : StV) : padN (24 * 32) (stX s) = stX s := by
 funext i
 unfold padN
 by_cases h : i < 24 * 32
 ·rw [if_pos h]
 ·rw [if_neg h]
  unfold stX
  obtain ⟨k, hk⟩ : ∃ k, i / 32 = k + 24 := ⟨i / 32 - 24, by omega⟩
  rw [hk]; rfl
/-- Leaves of a state's cells. -/
theorem st_leaf (o n : Nat) (T : TypeId) (h : (List.range n).all (fun q => leafAt Tryd.prog 8 49 (o + q) == leafAt Tryd.prog 8 T q) = true) : ∀ q, q < n → leafAt Tryd.prog 8 49 (o + q) = leafAt Tryd.prog 8 T q := fun q hq => eq_of_beq (List.all_eq_true.1 h q (List.mem_range.2 hq))
/-- A part of a state is what its type says. -/
theorem Sc.at_ {F : Nat → Value} (hF : Sc F 49) (o n : Nat) (T : TypeId) (h : (List.range n).all (fun q => leafAt Tryd.prog 8 49 (o + q) == leafAt Tryd.prog 8 T q) = true) (hout : ∀ q, n ≤ q → leafAt Tryd.prog 8 T q = none) : Sc (at_ F o) T := fun i l hl => by
 by_cases hi : i < n
 ·exact hF (o + i) l ((st_leaf o n T h i hi).trans hl)
 ·rw [hout i (by omega)] at hl; cases hl
end Go.Proofs.YtomilckcgmhfcaaDoor
/- The workers of a live state: what each writes. -/
namespace Go.Proofs.YtomilckcgmhfcaaDoor
set_option maxRecDepth 40000
open Go.RowKit
set_option maxHeartbeats 4000000 in
theorem balw_run (w : World) (L bn bi bB m c i : Nat) (x : Nat) (u : Value) (h1 : w.cell? ⟨L, 722, none⟩ = some (.slice (some ⟨bB, 0, none⟩) m c)) (h2 : w.cell? ⟨bi, 0, none⟩ = some (.int .i64 (i : Int))) (h3 : w.cell? ⟨bn, 0, none⟩ = some (.int .u64 (x : Int)))
  (h4 : w.cell? ⟨bB, i, none⟩ = some u) (h5 : w.frozen? ⟨bB, i, none⟩ = false) (hi : i < m) :
  Calls Tryd.prog 22 #[.pointer (some ⟨L, 0, none⟩), .pointer (some ⟨bn, 0, none⟩), .pointer (some ⟨bi, 0, none⟩)] w fun r w' => r = .returned (.tuple #[]) ∧ ∃ d, w' = (w.setCell ⟨bB, i, none⟩ (.int .u64 (x : Int))).drewN d := by
 go_enter Tryd.func22, Tryd.ntmps22
 go_wp2
 go_region
 go_end0

 exact ⟨rfl, 1, rfl⟩
set_option maxHeartbeats 4000000 in
theorem flgw_run (w : World) (L b1 b2 bi bP bC m c c2 i : Nat) (x y : Nat) (u v : Value) (h1 : w.cell? ⟨L, 987, none⟩ = some (.slice (some ⟨bP, 0, none⟩) m c)) (h1' : w.cell? ⟨L, 988, none⟩ = some (.slice (some ⟨bC, 0, none⟩) m c2)) (h2 : w.cell? ⟨bi, 0, none⟩ = some (.int .i64 (i : Int))) (h3 : w.cell? ⟨b1, 0, none⟩ = some (.int .u8 (x : Int))) (h3' : w.cell? ⟨b2, 0, none⟩ = some (.int .u8 (y : Int)))
  (h4 : w.cell? ⟨bP, i, none⟩ = some u) (h5 : w.frozen? ⟨bP, i, none⟩ = false) (h4' : w.cell? ⟨bC, i, none⟩ = some v) (h5' : w.frozen? ⟨bC, i, none⟩ = false) (hi : i < m) (n1 : ¬ bC = bP) (n2 : ¬ b2 = bP) (n3 : ¬ bi = bP) :
  Calls Tryd.prog 24 #[.pointer (some ⟨L, 0, none⟩), .pointer (some ⟨b1, 0, none⟩), .pointer (some ⟨b2, 0, none⟩), .pointer (some ⟨bi, 0, none⟩)] w fun r w' => r = .returned (.tuple #[]) ∧ ∃ d, w' = ((w.setCell ⟨bP, i, none⟩ (.int .u8 (x : Int))).setCell ⟨bC, i, none⟩ (.int .u8 (y : Int))).drewN d := by
 go_enter Tryd.func24, Tryd.ntmps24
 go_wp2
 go_region
 go_end0

 exact ⟨rfl, 1, rfl⟩
end Go.Proofs.YtomilckcgmhfcaaDoor
/- A list of a live state is written; what the workers do. (Printed by a program of mine.) -/
namespace Go.Proofs.YtomilckcgmhfcaaDoor
set_option maxRecDepth 40000
open Go.RowKit
theorem one_rd {w : World} {B : Nat} {A : Option Addr} {n : Nat} {f : Nat → Value} (h : Rd w B A (n * 1) f) : Rd w B A n f := by rwa [Nat.mul_one] at h
section
variable {w w' : World} {base L : Nat} {s : StV} {T : Nat → Nat} {v : Nat → TV}
/-- What lies in other roles than the one that was written. -/
theorem LM.others (h : LM w base L s T v) {r0 b : Nat} (hr : LRole L s T v r0 b) (hg : w.grownBy w' (some b)) : ∀ r k, LRole L s T v r k → r ≠ r0 → w'.heap[k]? = w.heap[k]? := fun r k hk hne =>
 hg.block k (h.role_lt r k hk) (fun e => by injection e with e; subst e; exact hne (h.apart r r0 k hk hr))
theorem LM.setB (h : LM w base L s T v) {b : Nat} (hA : s.aB = some ⟨b, 0, none⟩) {g : Nat → Value} (ho : OwnZ w' base 22 1 s.aB s.nB s.cB g) (hsc : ∀ i, i < s.nB → g i = .int .u64 ((nat (g i) : Nat) : Int) ∧ nat (g i) < 18446744073709551616) (hg : w.grownBy w' (some b)) : LM w' base L { s with Bal := g } T v ∧ Chg (fun b => OnA s.aB b) w w' := by
 have hk : ∀ r k, LRole L s T v r k → r ≠ 4 → w'.heap[k]? = w.heap[k]? := h.others (r0 := 4) ⟨_, hA, rfl⟩ hg
 have o : StOwn w' base { s with Bal := g } := ⟨h.own.H.blk fun ad e => hk 1 _ ⟨ad, e, rfl⟩ (by omega), h.own.E.blk fun ad e => hk 2 _ ⟨ad, e, rfl⟩ (by omega), h.own.V.blk fun ad e => hk 3 _ ⟨ad, e, rfl⟩ (by omega), ho, h.own.P.blk fun ad e => hk 5 _ ⟨ad, e, rfl⟩ (by omega), h.own.C.blk fun ad e => hk 6 _ ⟨ad, e, rfl⟩ (by omega), h.own.S.blk fun ad e => hk 7 _ ⟨ad, e, rfl⟩ (by omega)⟩
 refine ⟨{
  baseL := h.baseL
  row := h.row.of_block (hk 0 L rfl (by omega))
  ok := StOk.of_own (w := w') (s := { s with Bal := g }) (B := w'.heap.size) { h.ok with
   rV := (o.V).rd, rB := one_rd o.B.rd, rP := one_rd o.P.rd, rC := one_rd o.C.rd, rS := one_rd o.S.rd, rH := o.H.rd, rE := o.E.rd, scB := hsc } o
  own := o
  tm := fun j hj => (h.tm j hj).keep hg.size fun k hb => by
   rcases hb with h1 | h1
   ·exact hk (j + 8) k ⟨hj, h1⟩ (by omega)
   ·exact hg.block k ((h.tm j hj).zlt h1) (fun e => by injection e with e; exact h.zap k ⟨j, hj, h1⟩ ⟨4, ⟨b, 0, none⟩, hA, e.symm⟩)
  apart := h.apart
  zap := h.zap }, Chg.of_grown hg (fun k e => .inl ⟨⟨b, 0, none⟩, hA, by injection e⟩)⟩
theorem LM.setP (h : LM w base L s T v) {b : Nat} (hA : s.aP = some ⟨b, 0, none⟩) {g : Nat → Value} (ho : OwnZ w' base 5 1 s.aP s.nP s.cP g) (hsc : ∀ i, i < s.nP → g i = .int .u8 ((nat (g i) : Nat) : Int) ∧ nat (g i) < 256) (hg : w.grownBy w' (some b)) : LM w' base L { s with Prv := g } T v ∧ Chg (fun b => OnA s.aP b) w w' := by
 have hk : ∀ r k, LRole L s T v r k → r ≠ 5 → w'.heap[k]? = w.heap[k]? := h.others (r0 := 5) ⟨_, hA, rfl⟩ hg
 have o : StOwn w' base { s with Prv := g } := ⟨h.own.H.blk fun ad e => hk 1 _ ⟨ad, e, rfl⟩ (by omega), h.own.E.blk fun ad e => hk 2 _ ⟨ad, e, rfl⟩ (by omega), h.own.V.blk fun ad e => hk 3 _ ⟨ad, e, rfl⟩ (by omega), h.own.B.blk fun ad e => hk 4 _ ⟨ad, e, rfl⟩ (by omega), ho, h.own.C.blk fun ad e => hk 6 _ ⟨ad, e, rfl⟩ (by omega), h.own.S.blk fun ad e => hk 7 _ ⟨ad, e, rfl⟩ (by omega)⟩
 refine ⟨{
  baseL := h.baseL
  row := h.row.of_block (hk 0 L rfl (by omega))
  ok := StOk.of_own (w := w') (s := { s with Prv := g }) (B := w'.heap.size) { h.ok with
   rV := (o.V).rd, rB := one_rd o.B.rd, rP := one_rd o.P.rd, rC := one_rd o.C.rd, rS := one_rd o.S.rd, rH := o.H.rd, rE := o.E.rd, scP := hsc } o
  own := o
  tm := fun j hj => (h.tm j hj).keep hg.size fun k hb => by
   rcases hb with h1 | h1
   ·exact hk (j + 8) k ⟨hj, h1⟩ (by omega)
   ·exact hg.block k ((h.tm j hj).zlt h1) (fun e => by injection e with e; exact h.zap k ⟨j, hj, h1⟩ ⟨5, ⟨b, 0, none⟩, hA, e.symm⟩)
  apart := h.apart
  zap := h.zap }, Chg.of_grown hg (fun k e => .inl ⟨⟨b, 0, none⟩, hA, by injection e⟩)⟩
theorem LM.setC (h : LM w base L s T v) {b : Nat} (hA : s.aC = some ⟨b, 0, none⟩) {g : Nat → Value} (ho : OwnZ w' base 5 1 s.aC s.nC s.cC g) (hsc : ∀ i, i < s.nC → g i = .int .u8 ((nat (g i) : Nat) : Int) ∧ nat (g i) < 256) (hg : w.grownBy w' (some b)) : LM w' base L { s with Cur := g } T v ∧ Chg (fun b => OnA s.aC b) w w' := by
 have hk : ∀ r k, LRole L s T v r k → r ≠ 6 → w'.heap[k]? = w.heap[k]? := h.others (r0 := 6) ⟨_, hA, rfl⟩ hg
 have o : StOwn w' base { s with Cur := g } := ⟨h.own.H.blk fun ad e => hk 1 _ ⟨ad, e, rfl⟩ (by omega), h.own.E.blk fun ad e => hk 2 _ ⟨ad, e, rfl⟩ (by omega), h.own.V.blk fun ad e => hk 3 _ ⟨ad, e, rfl⟩ (by omega), h.own.B.blk fun ad e => hk 4 _ ⟨ad, e, rfl⟩ (by omega), h.own.P.blk fun ad e => hk 5 _ ⟨ad, e, rfl⟩ (by omega), ho, h.own.S.blk fun ad e => hk 7 _ ⟨ad, e, rfl⟩ (by omega)⟩
 refine ⟨{
  baseL := h.baseL
  row := h.row.of_block (hk 0 L rfl (by omega))
  ok := StOk.of_own (w := w') (s := { s with Cur := g }) (B := w'.heap.size) { h.ok with
   rV := (o.V).rd, rB := one_rd o.B.rd, rP := one_rd o.P.rd, rC := one_rd o.C.rd, rS := one_rd o.S.rd, rH := o.H.rd, rE := o.E.rd, scC := hsc } o
  own := o
  tm := fun j hj => (h.tm j hj).keep hg.size fun k hb => by
   rcases hb with h1 | h1
   ·exact hk (j + 8) k ⟨hj, h1⟩ (by omega)
   ·exact hg.block k ((h.tm j hj).zlt h1) (fun e => by injection e with e; exact h.zap k ⟨j, hj, h1⟩ ⟨6, ⟨b, 0, none⟩, hA, e.symm⟩)
  apart := h.apart
  zap := h.zap }, Chg.of_grown hg (fun k e => .inl ⟨⟨b, 0, none⟩, hA, by injection e⟩)⟩
theorem LM.setS (h : LM w base L s T v) {b : Nat} (hA : s.aS = some ⟨b, 0, none⟩) {g : Nat → Value} (ho : OwnZ w' base 22 1 s.aS s.nS s.cS g) (hsc : ∀ i, i < s.nS → g i = .int .u64 ((nat (g i) : Nat) : Int) ∧ nat (g i) < 18446744073709551616) (hg : w.grownBy w' (some b)) : LM w' base L { s with Sco := g } T v ∧ Chg (fun b => OnA s.aS b) w w' := by
 have hk : ∀ r k, LRole L s T v r k → r ≠ 7 → w'.heap[k]? = w.heap[k]? := h.others (r0 := 7) ⟨_, hA, rfl⟩ hg
 have o : StOwn w' base { s with Sco := g } := ⟨h.own.H.blk fun ad e => hk 1 _ ⟨ad, e, rfl⟩ (by omega), h.own.E.blk fun ad e => hk 2 _ ⟨ad, e, rfl⟩ (by omega), h.own.V.blk fun ad e => hk 3 _ ⟨ad, e, rfl⟩ (by omega), h.own.B.blk fun ad e => hk 4 _ ⟨ad, e, rfl⟩ (by omega), h.own.P.blk fun ad e => hk 5 _ ⟨ad, e, rfl⟩ (by omega), h.own.C.blk fun ad e => hk 6 _ ⟨ad, e, rfl⟩ (by omega), ho⟩
 refine ⟨{
  baseL := h.baseL
  row := h.row.of_block (hk 0 L rfl (by omega))
  ok := StOk.of_own (w := w') (s := { s with Sco := g }) (B := w'.heap.size) { h.ok with
   rV := (o.V).rd, rB := one_rd o.B.rd, rP := one_rd o.P.rd, rC := one_rd o.C.rd, rS := one_rd o.S.rd, rH := o.H.rd, rE := o.E.rd, scS := hsc } o
  own := o
  tm := fun j hj => (h.tm j hj).keep hg.size fun k hb => by
   rcases hb with h1 | h1
   ·exact hk (j + 8) k ⟨hj, h1⟩ (by omega)
   ·exact hg.block k ((h.tm j hj).zlt h1) (fun e => by injection e with e; exact h.zap k ⟨j, hj, h1⟩ ⟨7, ⟨b, 0, none⟩, hA, e.symm⟩)
  apart := h.apart
  zap := h.zap }, Chg.of_grown hg (fun k e => .inl ⟨⟨b, 0, none⟩, hA, by injection e⟩)⟩
end
/-- One cell of a list is another one. -/
def putC (f : Nat → Value) (i : Nat) (u : Value) : Nat → Value := fun j => if j = i then u else f j
theorem OwnZ.setI {w : World} {base n c b i d : Nat} {e : TypeId} {f : Nat → Value} (h : OwnZ w base e 1 (some ⟨b, 0, none⟩) n c f) (_hi : i < n) (u : Value) : OwnZ ((w.setCell ⟨b, i, none⟩ u).drewN d) base e 1 (some ⟨b, 0, none⟩) n c (putC f i u) := by
 obtain ⟨F, hr, hF, hb⟩ := h.row
 have h2 : ((w.setCell ⟨b, i, none⟩ u).drewN d).rowIs b e (c * 1) (fun j => if j = i then u else F j) := hr.set i u
 refine OwnZ.of_rowC h2 hb h.cap h.capM (fun j hj => ?_)
 unfold putC
 show (if j = i then u else F j) = _
 rw [hF j hj]
theorem grown_set {w : World} {b i d : Nat} {u : Value} : w.grownBy ((w.setCell ⟨b, i, none⟩ u).drewN d) (some b) := grown_drewN (grown_setCell (World.grownBy.refl _ _) (.inl rfl) _) d
/-- A list's block, its cells. -/
theorem OwnZ.cellO {w : World} {base n c b i : Nat} {e : TypeId} {f : Nat → Value} (h : OwnZ w base e 1 (some ⟨b, 0, none⟩) n c f) (hi : i < n) : w.cell? ⟨b, i, none⟩ = some (f i) ∧ w.frozen? ⟨b, i, none⟩ = false := by
 obtain ⟨F, hr, hF, hb⟩ := h.row
 have hc := h.cap
 exact ⟨by rw [hr.cell (by omega), hF i (by omega)], hr.frozen i⟩
theorem balw_lm (w : World) (base L bn bi i x : Nat) (s : StV) (T : Nat → Nat) (v : Nat → TV) (h : LM w base L s T v) (h2 : w.cell? ⟨bi, 0, none⟩ = some (.int .i64 (i : Int))) (h3 : w.cell? ⟨bn, 0, none⟩ = some (.int .u64 (x : Int))) (hi : i < s.nB) (hx : x < 18446744073709551616) :
    Calls Tryd.prog 22 #[.pointer (some ⟨L, 0, none⟩), .pointer (some ⟨bn, 0, none⟩), .pointer (some ⟨bi, 0, none⟩)] w fun r w' => r = .returned (.tuple #[]) ∧ LM w' base L { s with Bal := putC s.Bal i (.int .u64 (x : Int)) } T v ∧ Chg (fun b => OnA s.aB b) w w' := by
  obtain ⟨b, hA⟩ := own_some' h.own.B (by omega)
  have ho := h.own.B
  rw [hA] at ho
  obtain ⟨c1, c2⟩ := ho.cellO hi
  refine (balw_run w L bn bi b s.nB s.cB i x _ ((h.cell 722 (by omega)).trans (by rw [h.ok.f12, hA])) h2 h3 c1 c2 hi).mono ?_
  rintro r w' ⟨rfl, d, rfl⟩
  have h3 := h.setB hA (g := putC s.Bal i (.int .u64 (x : Int))) (by rw [hA]; exact ho.setI (d := d) hi _) (fun j hj => by
      unfold putC
      by_cases e : j = i
      · rw [if_pos e]; exact ⟨by simp [nat], by simpa [nat] using hx⟩
      · rw [if_neg e]; exact h.ok.scB j hj) grown_set
  exact ⟨rfl, h3.1, h3.2⟩
set_option maxHeartbeats 4000000 in
theorem scow_run (w : World) (L bn bi bS m c i : Nat) (x : Nat) (u : Value) (h1 : w.cell? ⟨L, 1092, none⟩ = some (.slice (some ⟨bS, 0, none⟩) m c)) (h2 : w.cell? ⟨bi, 0, none⟩ = some (.int .i64 (i : Int))) (h3 : w.cell? ⟨bn, 0, none⟩ = some (.int .u64 (x : Int)))
  (h4 : w.cell? ⟨bS, i, none⟩ = some u) (h5 : w.frozen? ⟨bS, i, none⟩ = false) (hi : i < m) :
  Calls Tryd.prog 23 #[.pointer (some ⟨L, 0, none⟩), .pointer (some ⟨bn, 0, none⟩), .pointer (some ⟨bi, 0, none⟩)] w fun r w' => r = .returned (.tuple #[]) ∧ ∃ d, w' = (w.setCell ⟨bS, i, none⟩ (.int .u64 (x : Int))).drewN d := by
 go_enter Tryd.func23, Tryd.ntmps23
 go_wp2
 go_region
 go_end0

 exact ⟨rfl, 1, rfl⟩
theorem scow_lm (w : World) (base L bn bi i x : Nat) (s : StV) (T : Nat → Nat) (v : Nat → TV) (h : LM w base L s T v) (h2 : w.cell? ⟨bi, 0, none⟩ = some (.int .i64 (i : Int))) (h3 : w.cell? ⟨bn, 0, none⟩ = some (.int .u64 (x : Int))) (hi : i < s.nS) (hx : x < 18446744073709551616) :
    Calls Tryd.prog 23 #[.pointer (some ⟨L, 0, none⟩), .pointer (some ⟨bn, 0, none⟩), .pointer (some ⟨bi, 0, none⟩)] w fun r w' => r = .returned (.tuple #[]) ∧ LM w' base L { s with Sco := putC s.Sco i (.int .u64 (x : Int)) } T v ∧ Chg (fun b => OnA s.aS b) w w' := by
  obtain ⟨b, hA⟩ := own_some' h.own.S (by omega)
  have ho := h.own.S
  rw [hA] at ho
  obtain ⟨c1, c2⟩ := ho.cellO hi
  refine (scow_run w L bn bi b s.nS s.cS i x _ ((h.cell 1092 (by omega)).trans (by rw [h.ok.f21, hA])) h2 h3 c1 c2 hi).mono ?_
  rintro r w' ⟨rfl, d, rfl⟩
  have h3 := h.setS hA (g := putC s.Sco i (.int .u64 (x : Int))) (by rw [hA]; exact ho.setI (d := d) hi _) (fun j hj => by
      unfold putC
      by_cases e : j = i
      · rw [if_pos e]; exact ⟨by simp [nat], by simpa [nat] using hx⟩
      · rw [if_neg e]; exact h.ok.scS j hj) grown_set
  exact ⟨rfl, h3.1, h3.2⟩
theorem flgw_lm (w : World) (base L b1 b2 bi i x y : Nat) (s : StV) (T : Nat → Nat) (v : Nat → TV) (h : LM w base L s T v) (h2 : w.cell? ⟨bi, 0, none⟩ = some (.int .i64 (i : Int))) (h3 : w.cell? ⟨b1, 0, none⟩ = some (.int .u8 (x : Int))) (h3' : w.cell? ⟨b2, 0, none⟩ = some (.int .u8 (y : Int))) (hi : i < s.nP) (hC : s.nC = s.nP) (hx : x < 256) (hy : y < 256) (n2 : ¬ LOwn L s T v b2) (n3 : ¬ LOwn L s T v bi) :
    Calls Tryd.prog 24 #[.pointer (some ⟨L, 0, none⟩), .pointer (some ⟨b1, 0, none⟩), .pointer (some ⟨b2, 0, none⟩), .pointer (some ⟨bi, 0, none⟩)] w fun r w' => r = .returned (.tuple #[]) ∧ LM w' base L { s with Prv := putC s.Prv i (.int .u8 (x : Int)), Cur := putC s.Cur i (.int .u8 (y : Int)) } T v ∧ Chg (fun b => OnA s.aP b ∨ OnA s.aC b) w w' := by
  obtain ⟨b, hA⟩ := own_some' h.own.P (by omega)
  obtain ⟨b', hA'⟩ := own_some' h.own.C (by omega)
  have ho := h.own.P
  rw [hA] at ho
  obtain ⟨c1, c2⟩ := ho.cellO hi
  have ho' := h.own.C
  rw [hA'] at ho'
  obtain ⟨c1', c2'⟩ := ho'.cellO (i := i) (by omega)
  have hne : ¬ b' = b := fun e => by
    have := h.apart 5 6 b ⟨_, hA, rfl⟩ ⟨_, hA', e⟩
    omega
  refine (flgw_run w L b1 b2 bi b b' s.nP s.cP s.cC i x y _ _ ((h.cell 987 (by omega)).trans (by rw [h.ok.f15, hA])) ((h.cell 988 (by omega)).trans (by rw [h.ok.f16, hA', hC])) h2 h3 h3' c1 c2 c1' c2' hi hne (fun e => n2 ⟨5, ⟨b, 0, none⟩, hA, e.symm⟩) (fun e => n3 ⟨5, ⟨b, 0, none⟩, hA, e.symm⟩)).mono ?_
  rintro r w' ⟨rfl, d, rfl⟩
  have k1 := h.setP hA (w' := (w.setCell ⟨b, i, none⟩ (.int .u8 (x : Int))).drewN 0) (g := putC s.Prv i (.int .u8 (x : Int))) (by rw [hA]; exact ho.setI hi _) (fun j hj => by
      unfold putC
      by_cases e : j = i
      · rw [if_pos e]; exact ⟨by simp [nat], by simpa [nat] using hx⟩
      · rw [if_neg e]; exact h.ok.scP j hj) grown_set
  have ho2 := k1.1.own.C
  simp only at ho2
  rw [hA'] at ho2
  have k2 := k1.1.setC hA' (g := putC s.Cur i (.int .u8 (y : Int))) (by simp only; rw [hA']; exact ho2.setI (i := i) (d := d) (by omega) _) (fun j hj => by
      unfold putC
      by_cases e : j = i
      · rw [if_pos e]; exact ⟨by simp [nat], by simpa [nat] using hy⟩
      · rw [if_neg e]; exact h.ok.scC j hj) grown_set
  exact ⟨rfl, k2.1, (k1.2.mono (fun _ _ h => .inl h)).trans k2.2 (fun b hb => .inl (.inr hb))⟩
end Go.Proofs.YtomilckcgmhfcaaDoor
/- One validator's things are turned. (Printed by a program of mine.) -/
namespace Go.Proofs.YtomilckcgmhfcaaDoor
set_option maxRecDepth 40000
open Go.RowKit
/-- Another state that differs at one validator alone, and not in the validator itself. -/
structure UpdS (i : Nat) (s t : StV) : Prop where
 F : t.F = s.F
 V : t.V = s.V
 nV : t.nV = s.nV
 nB : t.nB = s.nB
 nP : t.nP = s.nP
 nC : t.nC = s.nC
 nS : t.nS = s.nS
 B : ∀ k, k ≠ i → t.Bal k = s.Bal k
 P : ∀ k, k ≠ i → t.Prv k = s.Prv k
 C : ∀ k, k ≠ i → t.Cur k = s.Cur k
 S : ∀ k, k ≠ i → t.Sco k = s.Sco k
theorem setN_off {x y : Nat → Nat} {k : Nat} (h : ∀ q, ¬ (k * 32 ≤ q ∧ q < k * 32 + 32) → x q = y q) : setN x k (fun q => y (k * 32 + q)) = y := by
 funext q
 unfold setN
 split
 ·show y (k * 32 + (q - k * 32)) = y q
  rw [show k * 32 + (q - k * 32) = q by omega]
 ·exact h q (by assumption)
theorem numX_off {n i : Nat} {f g : Nat → Value} (h : ∀ k, k ≠ i → g k = f k) (q : Nat) (hq : ¬ (i / 4 * 32 ≤ q ∧ q < i / 4 * 32 + 32)) : numX n f q = numX n g q := by
 unfold numX padN LiveSmall.leS
 by_cases h1 : q < 8 * n
 ·rw [if_pos h1, if_pos h1]
  show leB (nat (f (q / 8))) _ = leB (nat (g (q / 8))) _
  rw [h (q / 8) (fun e => by omega)]
 ·rw [if_neg h1, if_neg h1]
theorem bytX_off {n i : Nat} {f g : Nat → Value} (h : ∀ k, k ≠ i → g k = f k) (q : Nat) (hq : ¬ (i / 32 * 32 ≤ q ∧ q < i / 32 * 32 + 32)) : bytX n f q = bytX n g q := by
 unfold bytX padN b8
 by_cases h1 : q < n
 ·rw [if_pos h1, if_pos h1, h q (fun e => by omega)]
 ·rw [if_neg h1, if_neg h1]
theorem upd_leaves {i : Nat} {s t : StV} (h : UpdS i s t) : ∀ j, j < 5 → lvX t j = tchX false (lvX s) (lvX t) i j :=
 five (show valX t.V = valX s.V by rw [h.V])
  (show numX t.nB t.Bal = setN (numX s.nB s.Bal) (i / 4) (fun q => numX t.nB t.Bal (i / 4 * 32 + q)) by rw [h.nB]; exact (setN_off (numX_off h.B)).symm)
  (show bytX t.nP t.Prv = setN (bytX s.nP s.Prv) (i / 32) (fun q => bytX t.nP t.Prv (i / 32 * 32 + q)) by rw [h.nP]; exact (setN_off (bytX_off h.P)).symm)
  (show bytX t.nC t.Cur = setN (bytX s.nC s.Cur) (i / 32) (fun q => bytX t.nC t.Cur (i / 32 * 32 + q)) by rw [h.nC]; exact (setN_off (bytX_off h.C)).symm)
  (show numX t.nS t.Sco = setN (numX s.nS s.Sco) (i / 4) (fun q => numX t.nS t.Sco (i / 4 * 32 + q)) by rw [h.nS]; exact (setN_off (numX_off h.S)).symm)
theorem upd_count {n i : Nat} (hi : i < n) : ∀ j, j < 5 → lvC j n = tchM false (fun j => lvC j n) i j := fun j _ => by
 have h1 : i / lvG j < lvC j n := by
  unfold lvC
  have hg := lvG_pos j
  rw [Nat.lt_iff_add_one_le, Nat.le_div_iff_mul_le hg]
  have := Nat.div_mul_le_self i (lvG j)
  rw [Nat.add_mul, Nat.one_mul]
  omega
 unfold tchM
 split
 ·rfl
 ·unfold layM; rw [if_pos h1]
theorem lvC_mono {i n : Nat} (h : i ≤ n) (j : Nat) : lvC j i ≤ lvC j n := by
 unfold lvC
 exact Nat.div_le_div_right (by omega)
section
variable {P : Program}
/-- A function value is called. -/
theorem wpList_callV {ops : Array Oper} {rest : List Oper} {o : Oper} {a : Act} {w : World} {Q : Exit → Act → World → Prop} (hgd : o.guard = none) {f : FuncId} (hent : ∀ vs w, (callFunc f vs).run P w = .ok (.enter f vs) w) {t : Tmp} {x : Operand} {ts : Array TypeId} {cap : Array Value} (ho : o.op = .call { callee := .value (.tmp t), args := #[x], argTypes := ts }) (ht : a.eval (.tmp t) = .func (.func f) #[] cap) (u : Value) (hx : a.eval x = u)
  (hr : Calls P f (#[u] ++ cap) w fun e w' => ∃ v, e = .returned v ∧ wpList P ops Q rest (a.put o.dst v) w') : wpList P ops Q (o :: rest) a w :=
 wpList_plain hgd fun _ hK' => by
  have hrun : (execOp a.eval o).run P w = .ok (.enter f (#[u] ++ cap)) w := by
   unfold execOp
   rw [ho]
   simp only [resolve, ht]
   simp [invoke, Deferred.ofValue, hx, hent]
  unfold Oper.wp
  rw [hrun]
  exact hr.mono fun e w' ⟨v, he, hk⟩ => by subst he; exact hK' _ _ hk
end
namespace LiveTurn
theorem ent_bw (vs : Array Value) (w : World) : (callFunc 22 vs).run Tryd.prog w = .ok (.enter 22 vs) w := by kernel_rfl
theorem ent_sw (vs : Array Value) (w : World) : (callFunc 23 vs).run Tryd.prog w = .ok (.enter 23 vs) w := by kernel_rfl
theorem ent_fw (vs : Array Value) (w : World) : (callFunc 24 vs).run Tryd.prog w = .ok (.enter 24 vs) w := by kernel_rfl
end LiveTurn
set_option maxHeartbeats 8000000 in
theorem turn_out (base L n : Nat) (i : Int) (own : Bool) (fv : Value) (s : StV) (T : Nat → Nat) (w : World) (v : Nat → TV) (h : LM w base L s T v) (hV : s.nV = n) (hi : i < 0 ∨ (n : Int) ≤ i) :
  Calls Tryd.prog 21 #[.pointer (some ⟨L, 0, none⟩), .int .i64 i, .bool own, fv] w fun r w' => r = .returned (.int .i64 1) ∧ w' = w := by
 have h721 := (h.cell 721 (by omega)).trans (congrArg some (show s.F 721 = .slice s.aV n s.cV by rw [h.ok.f11, hV]))
 clear h
 by_cases h0 : i < 0
 ·have t0 : decide (i < 0) = true := decide_eq_true h0
  go_enter Tryd.func21, Tryd.ntmps21
  go_wp2_with fail
  go_ret
  exact ⟨rfl, rfl⟩
 ·have t0 : decide (i < 0) = false := decide_eq_false h0
  have t1 : decide ((n : Int) ≤ i) = true := decide_eq_true (by omega)
  go_enter Tryd.func21, Tryd.ntmps21
  go_wp2_with fail
  go_ret
  exact ⟨rfl, rfl⟩
open LiveTurn in
set_option maxHeartbeats 16000000 in
theorem turn_ok (base L n i h : Nat) (f : FuncId) (hent : ∀ vs w, (callFunc f vs).run Tryd.prog w = .ok (.enter f vs) w) (cap : Array Value) (S : Nat → Prop) (s t : StV) (T : Nat → Nat) (w : World) (v : Nat → TV) (hL : LV w base L s T v h) (hU : UpdS i s t) (hR : RightF t) (hV : s.nV = n) (hi : i < n) (hp : ShaPkg w) (hpB : 0 < base ∧ 1 < base)
  (hS : ∀ b, S b → LOwn L s T v b) (hT : ∀ b, LOwn L t T v b → LOwn L s T v b) (hw : ∀ w1, Below w.heap.size w w1 → Calls Tryd.prog f (#[.pointer (some ⟨L, 0, none⟩)] ++ cap) w1 fun r w2 => r = .returned (.tuple #[]) ∧ LM w2 base L t T v ∧ Chg S w1 w2) :
  Calls Tryd.prog 21 #[.pointer (some ⟨L, 0, none⟩), .int .i64 (i : Int), .bool false, .func (.func f) #[] cap] w fun r w' => ∃ v', r = .returned (.int .i64 0) ∧ LV w' base L t T v' h ∧ LStep w w' L s T v t T v' := by
 have hR0 := hL.right
 have hn : n ≤ 65536 := by rw [← hV]; exact hR0.n
 have HL := Lib.hid hL.lm
 have HLV := Lib.hid hL
 have HU := Lib.hid hU
 have HR := Lib.hid hR
 have HP := Lib.hid hp
 have HPB := Lib.hid hpB
 have HNV := Lib.hid hV
 have HSs := Lib.hid hS
 have HTs := Lib.hid hT
 have HW := Lib.hid hw
 have HEnt := Lib.hid hent
 have hcnt : s.nB = n ∧ s.nP = n ∧ s.nC = n ∧ s.nS = n := ⟨hR0.nB.trans hV, hR0.nP.trans hV, hR0.nC.trans hV, hR0.nS.trans hV⟩
 have HCn := Lib.hid hcnt
 obtain ⟨bV, hAV⟩ := own_some' hL.lm.own.V (by omega)
 obtain ⟨bB, hAB⟩ := own_some' hL.lm.own.B (by omega)
 obtain ⟨bP, hAP⟩ := own_some' hL.lm.own.P (by omega)
 obtain ⟨bC, hAC⟩ := own_some' hL.lm.own.C (by omega)
 obtain ⟨bS, hAS⟩ := own_some' hL.lm.own.S (by omega)
 have HAV := Lib.hid hAV
 have HF11 := Lib.hid (show s.F 721 = .slice (some ⟨bV, 0, none⟩) n s.cV by rw [hL.lm.ok.f11, hAV, hV])
 have HFB := Lib.hid (show s.F 722 = .slice (some ⟨bB, 0, none⟩) n s.cB by rw [hL.lm.ok.f12, hAB, hcnt.1])
 have HCB := Lib.hid (fun (wz : World) (hz : LM wz base L s T v) => show wz.cell? ⟨bB, i, none⟩ = some (s.Bal i) from by have ho := hz.own.B; rw [hAB] at ho; exact (ho.cellO (by omega)).1)
 have HFP := Lib.hid (show s.F 987 = .slice (some ⟨bP, 0, none⟩) n s.cP by rw [hL.lm.ok.f15, hAP, hcnt.2.1])
 have HCP := Lib.hid (fun (wz : World) (hz : LM wz base L s T v) => show wz.cell? ⟨bP, i, none⟩ = some (s.Prv i) from by have ho := hz.own.P; rw [hAP] at ho; exact (ho.cellO (by omega)).1)
 have HFC := Lib.hid (show s.F 988 = .slice (some ⟨bC, 0, none⟩) n s.cC by rw [hL.lm.ok.f16, hAC, hcnt.2.2.1])
 have HCC := Lib.hid (fun (wz : World) (hz : LM wz base L s T v) => show wz.cell? ⟨bC, i, none⟩ = some (s.Cur i) from by have ho := hz.own.C; rw [hAC] at ho; exact (ho.cellO (by omega)).1)
 have HFS := Lib.hid (show s.F 1092 = .slice (some ⟨bS, 0, none⟩) n s.cS by rw [hL.lm.ok.f21, hAS, hcnt.2.2.2])
 have HCS := Lib.hid (fun (wz : World) (hz : LM wz base L s T v) => show wz.cell? ⟨bS, i, none⟩ = some (s.Sco i) from by have ho := hz.own.S; rw [hAS] at ho; exact (ho.cellO (by omega)).1)
 have HScV := Lib.hid (hL.lm.ok.scV i (by omega))
 have H1V := Lib.hid (show ∀ q, q < 86 → (s.V (i * 86 + q)).oneCell' = true from fun q hq => StCopy.one_list hL.lm.ok.scV (by kernel_rfl) _ (by omega))
 have h721 := (hL.lm.cell 721 (by omega)).trans (congrArg some HF11.out)
 have t0 : decide ((i : Int) < 0) = false := decide_eq_false (by omega)
 have t1 : decide ((n : Int) ≤ (i : Int)) = false := decide_eq_false (by omega)
 clear hL hU hR hV hp hpB hS hT hw hent hcnt hAV hAB hAP hAC hAS hR0
 go_enter Tryd.func21, Tryd.ntmps21
 go_upto_region 3 with fail
 clear t0 t1 h721
 refine wp_region_st (l := [_, _, _, _, _, _, _, _, _, _, _, _, _, _, _, _, _, _, _, _, _, _, _, _, _, _, _, _, _, _, _, _, _, _, _, _, _, _, _, _, _, _, _, _, _, _]) (tl := []) (B := w.heap.size) (w0 := w) [OF.is (.pointer (some ⟨L, 0, none⟩)), OF.is (.pointer (some ⟨L, 0, none⟩)), OF.is (.pointer (some ⟨L, 0, none⟩)), OF.is (.pointer (some ⟨L, 721, none⟩)), OF.is (.slice (some ⟨bV, 0, none⟩) (n) (s.cV)), OF.is (.int .i64 ((i : Nat) : Int)), OF.is (.pointer (some ⟨bV, i * 86, none⟩)), OF.is (.agg (arr 86 fun q => s.V (i * 86 + q))), OF.is (.pointer (some ⟨L, 0, none⟩)), OF.is (.pointer (some ⟨L, 0, none⟩)), OF.is (.pointer (some ⟨L, 0, none⟩)), OF.is (.pointer (some ⟨L, 722, none⟩)), OF.is (.slice (some ⟨bB, 0, none⟩) (n) (s.cB)), OF.is (.int .i64 ((i : Nat) : Int)), OF.is (.pointer (some ⟨bB, i, none⟩)), OF.is (s.Bal i), OF.is (.pointer (some ⟨L, 0, none⟩)), OF.is (.pointer (some ⟨L, 0, none⟩)), OF.is (.pointer (some ⟨L, 0, none⟩)), OF.is (.pointer (some ⟨L, 1092, none⟩)), OF.is (.slice (some ⟨bS, 0, none⟩) (n) (s.cS)), OF.is (.int .i64 ((i : Nat) : Int)), OF.is (.pointer (some ⟨bS, i, none⟩)), OF.is (s.Sco i), OF.is (.pointer (some ⟨L, 0, none⟩)), OF.is (.pointer (some ⟨L, 0, none⟩)), OF.is (.pointer (some ⟨L, 0, none⟩)), OF.is (.pointer (some ⟨L, 987, none⟩)), OF.is (.slice (some ⟨bP, 0, none⟩) (n) (s.cP)), OF.is (.int .i64 ((i : Nat) : Int)), OF.is (.pointer (some ⟨bP, i, none⟩)), OF.is (s.Prv i), OF.is (.pointer (some ⟨L, 0, none⟩)), OF.is (.pointer (some ⟨L, 0, none⟩)), OF.is (.pointer (some ⟨L, 0, none⟩)), OF.is (.pointer (some ⟨L, 988, none⟩)), OF.is (.slice (some ⟨bC, 0, none⟩) (n) (s.cC)), OF.is (.int .i64 ((i : Nat) : Int)), OF.is (.pointer (some ⟨bC, i, none⟩)), OF.is (s.Cur i), OF.new w.heap.size 66 86 (fun q => (zeroOf Tryd.prog 66).getD q undef), OF.new w.heap.size 66 86 (fun q => s.V (i * 86 + q)), OF.is (s.Bal i), OF.is (s.Sco i), OF.is (s.Prv i), OF.is (s.Cur i)] [none, none, none, none, none, none, none, none, none, none, none, none, none, none, none, none, none, none, none, none, none, none, none, none, none, none, none, none, none, none, none, none, none, none, none, none, none, none, none, none, none, some 9, none, none, none, none] [false, false, false, false, false, false, false, false, false, false, false, false, false, false, false, false, false, false, false, false, false, false, false, false, false, false, false, false, false, false, false, false, false, false, false, false, false, false, false, false, true, false, false, false, false, false] (by kernel_rfl) (by kernel_rfl) rfl (Nat.le_refl _) (Below.refl _ _) ⟨?_, ?_, ?_, ?_, ?_, ?_, ?_, ?_, ?_, ?_, ?_, ?_, ?_, ?_, ?_, ?_, ?_, ?_, ?_, ?_, ?_, ?_, ?_, ?_, ?_, ?_, ?_, ?_, ?_, ?_, ?_, ?_, ?_, ?_, ?_, ?_, ?_, ?_, ?_, ?_, ?_, ?_, ?_, ?_, ?_, ?_, trivial⟩ ?_
 ·exact opObQ_of (by simp) (opObO_is ((opOb_move _ rfl (.inl rfl) rfl)))
 ·exact opObQ_of (by simp) (opObO_is (opOb_nil _ rfl rfl (OpK.tmp rfl)))
 ·exact opObQ_of (by simp) (opObO_is (opOb_fld rfl rfl (OpK.tmp rfl) (fun w => by simp [go_sem])))
 ·exact opObQ_of (by simp) (opObO_is (opOb_fld rfl rfl (OpK.tmp rfl) (fun w => by simp [go_sem])))
 ·exact opObQ_of (by simp) (opObO_is (opOb_ld rfl rfl (OpK.tmp rfl) (fun w' hb => PickDraw.run_ldSl w' _ _ _ _ (((HL.out.below hb).cell 721 (by omega)).trans (congrArg some HF11.out)) Tryd.underlying36)))
 ·exact opObQ_of (by simp) (opObO_is ((opOb_move _ rfl (.inl rfl) rfl)))
 ·exact opObQ_of (by simp) (opObO_is (opOb_idx rfl rfl (OpK.tmp rfl) (OpK.tmp rfl) (fun w => (run_idxZ (z := 86) w Tryd.underlying36 (by kernel_rfl) ⟨bV, 0, none⟩ hi).trans (by rw [add_lit0]))))
 ·exact opObQ_of (by simp) (opObO_is (opOb_ld rfl rfl (OpK.tmp rfl) (fun w' hb => run_loadAt_part w' bV (i * 86) 86 66 _ (fun q => s.V (i * 86 + q)) (fun q hq => by have h := ((HL.out.below hb).ok.rV.cell_' HAV.out (show i * 86 + q < s.nV * 86 by rw [HNV.out]; omega)); rw [add_lit0] at h; exact h) Tryd.underlying66 rfl (by kernel_rfl))))
 ·exact opObQ_of (by simp) (opObO_is ((opOb_move _ rfl (.inl rfl) rfl)))
 ·exact opObQ_of (by simp) (opObO_is (opOb_nil _ rfl rfl (OpK.tmp rfl)))
 ·exact opObQ_of (by simp) (opObO_is (opOb_fld rfl rfl (OpK.tmp rfl) (fun w => by simp [go_sem])))
 ·exact opObQ_of (by simp) (opObO_is (opOb_fld rfl rfl (OpK.tmp rfl) (fun w => by simp [go_sem])))
 ·exact opObQ_of (by simp) (opObO_is (opOb_ld rfl rfl (OpK.tmp rfl) (fun w' hb => PickDraw.run_ldSl w' _ _ _ _ (((HL.out.below hb).cell 722 (by omega)).trans (congrArg some HFB.out)) Tryd.underlying37)))
 ·exact opObQ_of (by simp) (opObO_is ((opOb_move _ rfl (.inl rfl) rfl)))
 ·exact opObQ_of (by simp) (opObO_is (opOb_idx rfl rfl (OpK.tmp rfl) (OpK.tmp rfl) (fun w => (run_idxZ (z := 1) w Tryd.underlying37 (by kernel_rfl) ⟨bB, 0, none⟩ hi).trans (by rw [add_lit0, Nat.mul_one]))))
 ·exact opObQ_of (by simp) (opObO_is (opOb_ld rfl rfl (OpK.tmp rfl) (fun w' hb => run_ld1 w' _ _ .u64 _ (HCB.out _ (HL.out.below hb)) Tryd.underlying22)))
 ·exact opObQ_of (by simp) (opObO_is ((opOb_move _ rfl (.inl rfl) rfl)))
 ·exact opObQ_of (by simp) (opObO_is (opOb_nil _ rfl rfl (OpK.tmp rfl)))
 ·exact opObQ_of (by simp) (opObO_is (opOb_fld rfl rfl (OpK.tmp rfl) (fun w => by simp [go_sem])))
 ·exact opObQ_of (by simp) (opObO_is (opOb_fld rfl rfl (OpK.tmp rfl) (fun w => by simp [go_sem])))
 ·exact opObQ_of (by simp) (opObO_is (opOb_ld rfl rfl (OpK.tmp rfl) (fun w' hb => PickDraw.run_ldSl w' _ _ _ _ (((HL.out.below hb).cell 1092 (by omega)).trans (congrArg some HFS.out)) Tryd.underlying37)))
 ·exact opObQ_of (by simp) (opObO_is ((opOb_move _ rfl (.inl rfl) rfl)))
 ·exact opObQ_of (by simp) (opObO_is (opOb_idx rfl rfl (OpK.tmp rfl) (OpK.tmp rfl) (fun w => (run_idxZ (z := 1) w Tryd.underlying37 (by kernel_rfl) ⟨bS, 0, none⟩ hi).trans (by rw [add_lit0, Nat.mul_one]))))
 ·exact opObQ_of (by simp) (opObO_is (opOb_ld rfl rfl (OpK.tmp rfl) (fun w' hb => run_ld1 w' _ _ .u64 _ (HCS.out _ (HL.out.below hb)) Tryd.underlying22)))
 ·exact opObQ_of (by simp) (opObO_is ((opOb_move _ rfl (.inl rfl) rfl)))
 ·exact opObQ_of (by simp) (opObO_is (opOb_nil _ rfl rfl (OpK.tmp rfl)))
 ·exact opObQ_of (by simp) (opObO_is (opOb_fld rfl rfl (OpK.tmp rfl) (fun w => by simp [go_sem])))
 ·exact opObQ_of (by simp) (opObO_is (opOb_fld rfl rfl (OpK.tmp rfl) (fun w => by simp [go_sem])))
 ·exact opObQ_of (by simp) (opObO_is (opOb_ld rfl rfl (OpK.tmp rfl) (fun w' hb => PickDraw.run_ldSl w' _ _ _ _ (((HL.out.below hb).cell 987 (by omega)).trans (congrArg some HFP.out)) Tryd.underlying39)))
 ·exact opObQ_of (by simp) (opObO_is ((opOb_move _ rfl (.inl rfl) rfl)))
 ·exact opObQ_of (by simp) (opObO_is (opOb_idx rfl rfl (OpK.tmp rfl) (OpK.tmp rfl) (fun w => (run_idxZ (z := 1) w Tryd.underlying39 (by kernel_rfl) ⟨bP, 0, none⟩ hi).trans (by rw [add_lit0, Nat.mul_one]))))
 ·exact opObQ_of (by simp) (opObO_is (opOb_ld rfl rfl (OpK.tmp rfl) (fun w' hb => run_ld1 w' _ _ .u8 _ (HCP.out _ (HL.out.below hb)) Tryd.underlying5)))
 ·exact opObQ_of (by simp) (opObO_is ((opOb_move _ rfl (.inl rfl) rfl)))
 ·exact opObQ_of (by simp) (opObO_is (opOb_nil _ rfl rfl (OpK.tmp rfl)))
 ·exact opObQ_of (by simp) (opObO_is (opOb_fld rfl rfl (OpK.tmp rfl) (fun w => by simp [go_sem])))
 ·exact opObQ_of (by simp) (opObO_is (opOb_fld rfl rfl (OpK.tmp rfl) (fun w => by simp [go_sem])))
 ·exact opObQ_of (by simp) (opObO_is (opOb_ld rfl rfl (OpK.tmp rfl) (fun w' hb => PickDraw.run_ldSl w' _ _ _ _ (((HL.out.below hb).cell 988 (by omega)).trans (congrArg some HFC.out)) Tryd.underlying39)))
 ·exact opObQ_of (by simp) (opObO_is ((opOb_move _ rfl (.inl rfl) rfl)))
 ·exact opObQ_of (by simp) (opObO_is (opOb_idx rfl rfl (OpK.tmp rfl) (OpK.tmp rfl) (fun w => (run_idxZ (z := 1) w Tryd.underlying39 (by kernel_rfl) ⟨bC, 0, none⟩ hi).trans (by rw [add_lit0, Nat.mul_one]))))
 ·exact opObQ_of (by simp) (opObO_is (opOb_ld rfl rfl (OpK.tmp rfl) (fun w' hb => run_ld1 w' _ _ .u8 _ (HCC.out _ (HL.out.below hb)) Tryd.underlying5)))
 ·exact opObQ_of (by simp) (opObO_new w.heap.size rfl rfl (zeroOf Tryd.prog 66) (by kernel_rfl) 86 (fun q => (zeroOf Tryd.prog 66).getD q undef) (by kernel_rfl) (fun i hi => get_getD _ i (by rw [show (zeroOf Tryd.prog 66).size = 86 by kernel_rfl]; exact hi)) (Nat.le_refl _))
 ·exact opObQ_sto w.heap.size (Nat.le_refl _) rfl rfl rfl rfl rfl (by kernel_rfl) H1V.out
 ·exact opObQ_of (by simp) (opObO_is ((opOb_move _ rfl (.inr rfl) rfl)))
 ·exact opObQ_of (by simp) (opObO_is ((opOb_move _ rfl (.inr rfl) rfl)))
 ·exact opObQ_of (by simp) (opObO_is ((opOb_move _ rfl (.inr rfl) rfl)))
 ·exact opObQ_of (by simp) (opObO_is ((opOb_move _ rfl (.inr rfl) rfl)))
 ·intro w' hb
  simp only [finQ, OF.is, OF.new, forall_eq]
  simp only [pcX]
  rintro v9 ⟨b9, hv9, hb9, hr9⟩ hdis
  obtain rfl : v9 = .pointer (some ⟨b9, 0, none⟩) := hv9
  clear hdis hb9 hr9
  simp only [seqWp]
  have HB3 := Lib.hid hb
  obtain ⟨w3, hw3⟩ : ∃ w3 : World, w3 = w' := ⟨_, rfl⟩
  subst hw3
  clear hb
  go_upto_region 5 with (((with_reducible refine at_l ?_)); refine wpList_callV rfl HEnt.out rfl rfl (.pointer (some ⟨L, 0, none⟩)) rfl ((HW.out _ HB3.out).mono ?_); rintro r w4 ⟨rfl, hlm, hch⟩; have HL4 := Lib.hid hlm; have HC4 := Lib.hid hch; clear hlm hch; refine ⟨_, rfl, ?_⟩)
  have hst : LStep w w4 L s T v t T v := (LStep.refl HB3.out).trans ⟨HC4.out.mono (fun b _ hb => HSs.out b hb), fun b hb => .inl (HTs.out b hb), fun b hb => .inl hb⟩
  have HSt := Lib.hid hst
  have HP4 := Lib.hid (HP.out.belowB HPB.out (hst.below HL.out (Nat.le_refl _)))
  clear hst
  go_wp2_with (first
   | ((with_reducible refine at_l ?_); refine wpList_load_part rfl 49 (.tmp 77) rfl L 0 1957 t.F rfl _ (fun i hi => by rw [Nat.zero_add]; exact HL4.out.cell i hi) Tryd.underlying49 rfl (by kernel_rfl) _ rfl ?_)
   | (go_at_call 16; refine (stright_iff t _ HL4.out.ok).mono ?_; rintro r w5 ⟨b, rfl, hb, hbw⟩; obtain rfl : b = true := hb.2 HR.out; have HB5 := Lib.hid hbw; clear hb hbw)
   | (go_at_call 41; have hn' : t.nV = n := HU.out.nV.trans HNV.out; have hTJ : TJ base L t T w5 v w5 v (fun j => lvC j n) (lvX s) := { lm := HL4.out.below HB5.out, tc := Chg.refl _ _, tn := fun _ h => .inl h, tz := fun _ _ => rfl, st := fun j hj => HNV.out ▸ HLV.out.st j hj, lim := HLV.out.lim, D := fun _ _ => rfl, H := fun _ _ => rfl, sha := fun _ => HP4.out.below HB5.out }; refine (touch_false base L n i t T _ v _ _ hTJ hi hn hn' (HU.out.nB.trans HCn.out.1) (HU.out.nP.trans HCn.out.2.1) (HU.out.nC.trans HCn.out.2.2.1) (HU.out.nS.trans HCn.out.2.2.2) (fun j hj _ => Nat.le_trans (lvC_le i j hj) (lvC_mono (Nat.le_of_lt hi) j)) HPB.out).mono ?_; clear hTJ; rintro r w6 ⟨v6, rfl, hj6⟩; have HJ6 := Lib.hid (hj6.re (upd_count hi) (upd_leaves HU.out)); clear hj6 hn'))
  go_ret
  exact ⟨v6, rfl, ⟨HJ6.out.lm, fun j hj => by rw [HU.out.nV, HNV.out]; exact HJ6.out.st j hj, HJ6.out.lim, fun j hj => (HJ6.out.D j hj).trans (HLV.out.D j hj), fun j hj => by rw [HJ6.out.H j hj]; exact HLV.out.H j hj, HR.out⟩, (HSt.out.trans (LStep.refl HB5.out)).trans HJ6.out.ls⟩
end Go.Proofs.YtomilckcgmhfcaaDoor
/- Balance, Score, Flags of a validator; the state as it stands. (Printed by a program of mine.) -/
namespace Go.Proofs.YtomilckcgmhfcaaDoor
set_option maxRecDepth 40000
open Go.RowKit
/-- A number that is kept. -/
theorem wpList_box1 {P : Program} {ops : Array Oper} {rest : List Oper} {o : Oper} {a : Act} {w w0 : World} {Q : Exit → Act → World → Prop} {rows : List RowSpec} (hgd : o.guard = none) (ty : TypeId) (x : Operand) (d : Tmp) (_hd : o.dst = some d) (ho : o.op = .box ty x) (h : HS w0 w rows) (v : Value) (hv : v.cells = #[v]) (hx : a.eval x = v)
  (hK : ∀ b w', w0.heap.size ≤ b → w.heap.size ≤ b → HS w0 w' (⟨b, ty, 1, fun _ => v⟩ :: rows) → wpList P ops Q rest (a.put o.dst (.pointer (some ⟨b, 0, none⟩))) w') : wpList P ops Q (o :: rest) a w :=
 wpList_plain hgd fun _ hK' => by
  have hrun : (execOp a.eval o).run P w = .ok (.value (.pointer (some ⟨w.heap.size, 0, none⟩))) (w.alloc (.cells #[v] ty)) := by
   unfold execOp
   rw [ho]
   simp only [hx]
   simp [Instr.box, newVar, go_sem]
   exact congrArg (fun c => w.alloc (Obj.cells c ty)) hv
  unfold Oper.wp
  rw [hrun]
  exact hK' _ _ (hK _ _ h.size (Nat.le_refl _) (h.alloc #[v] ty 1 (fun _ => v) rfl (fun i hi => by rw [show i = 0 by omega]; rfl)))
theorem LV.below {w w' : World} {base L h : Nat} {s : StV} {T : Nat → Nat} {v : Nat → TV} (k : LV w base L s T v h) (hb : Below w.heap.size w w') : LV w' base L s T v h := ⟨k.lm.below hb, k.st, k.lim, k.D, k.H, k.right⟩
open LiveTurn in
set_option maxHeartbeats 8000000 in
theorem bal_ok (base L i h x : Nat) (s : StV) (T : Nat → Nat) (w : World) (v : Nat → TV) (hL : LV w base L s T v h) (hi : i < s.nV) (hx : x < 18446744073709551616) (hR : RightF { s with Bal := putC s.Bal i (.int .u64 (x : Int)) }) (hp : ShaPkg w) (hpB : 0 < base ∧ 1 < base) :
  Calls Tryd.prog 8 #[.pointer (some ⟨L, 0, none⟩), .int .i64 (i : Int), .int .u64 (x : Int)] w fun r w' => ∃ v', r = .returned (.int .i64 0) ∧ LV w' base L { s with Bal := putC s.Bal i (.int .u64 (x : Int)) } T v' h ∧ LStep w w' L s T v { s with Bal := putC s.Bal i (.int .u64 (x : Int)) } T v' := by
 have HL := Lib.hid hL
 have HR := Lib.hid hR
 have HP := Lib.hid hp
 have HPB := Lib.hid hpB
 have HS0 := Lib.hid (HS.nil w)
 obtain ⟨t, ht⟩ : ∃ t : StV, t = { s with Bal := putC s.Bal i (.int .u64 (x : Int)) } := ⟨_, rfl⟩
 have HT := Lib.hid ht
 have HU := Lib.hid (show UpdS i s t by rw [ht]; exact ⟨rfl, rfl, rfl, rfl, rfl, rfl, rfl, fun k hk => if_neg hk, fun _ _ => rfl, fun _ _ => rfl, fun _ _ => rfl⟩)
 rw [← ht] at HR ⊢
 have HN := Lib.hid (show i < s.nB from (hL.right.nB).symm ▸ hi)
 clear hL hR hp hpB ht
 go_enter Tryd.func8, Tryd.ntmps8
 go_wp2_with (first
  | ((with_reducible refine at_l ?_); refine wpList_box1 rfl 3 _ 4 rfl rfl HS0.out (.int .i64 (i : Int)) rfl rfl ?_; intro b4 w1 hb4 hc4 hs; have HS1 := Lib.hid hs; clear hs)
  | ((with_reducible refine at_l ?_); refine wpList_box1 rfl 22 _ 5 rfl rfl HS1.out (.int .u64 (x : Int)) rfl rfl ?_; intro b5 w2 hb5 hc5 hs; have HS2 := Lib.hid hs; have h4 := hs.cell 1 0 rfl (by omega); clear hs)
  | ((with_reducible refine at_l ?_); refine wpList_mkF rfl 9 rfl rfl #[.pointer (some ⟨b5, 0, none⟩), .pointer (some ⟨b4, 0, none⟩)] rfl ?_)
  | (go_at_call 21; have hb2 := HS2.out.out (by simp; omega); refine (turn_ok base L s.nV i h 22 ent_bw #[.pointer (some ⟨b5, 0, none⟩), .pointer (some ⟨b4, 0, none⟩)] (fun b => OnA s.aB b) s t T w2 v (HL.out.below hb2) HU.out HR.out rfl hi (HP.out.below hb2) HPB.out (fun b hb => ⟨4, hb⟩) (fun b hb => by rw [HT.out] at hb; exact hb) (fun wz hz => by rw [HT.out]; exact balw_lm wz base L b5 b4 i x s T v ((HL.out.lm.below hb2).below hz) ((hz.cell (p := ⟨b4, 0, none⟩) (HS2.out.lt 1 rfl)).trans (HS2.out.cell 1 0 rfl (show 0 < 1 by omega))) ((hz.cell (p := ⟨b5, 0, none⟩) (HS2.out.lt 0 rfl)).trans (HS2.out.cell 0 0 rfl (show 0 < 1 by omega))) HN.out hx)).mono ?_; rintro r w3 ⟨v3, rfl, h1, h2⟩; have H1 := Lib.hid h1; have H2 := Lib.hid ((LStep.refl hb2).trans h2); clear h1 h2 hb2))
 go_ret
 exact ⟨v3, rfl, H1.out, H2.out⟩
set_option maxHeartbeats 8000000 in
theorem bal_out (base L n x : Nat) (i : Int) (s : StV) (T : Nat → Nat) (w : World) (v : Nat → TV) (hL : LM w base L s T v) (hV : s.nV = n) (hi : i < 0 ∨ (n : Int) ≤ i) :
  Calls Tryd.prog 8 #[.pointer (some ⟨L, 0, none⟩), .int .i64 i, .int .u64 (x : Int)] w fun r w' => r = .returned (.int .i64 1) ∧ Below w.heap.size w w' := by
 have HL := Lib.hid hL
 have HS0 := Lib.hid (HS.nil w)
 clear hL
 go_enter Tryd.func8, Tryd.ntmps8
 go_wp2_with (first
  | ((with_reducible refine at_l ?_); refine wpList_box1 rfl 3 _ 4 rfl rfl HS0.out (.int .i64 i) rfl rfl ?_; intro b4 w1 hb4 hc4 hs; have HS1 := Lib.hid hs; clear hs)
  | ((with_reducible refine at_l ?_); refine wpList_box1 rfl 22 _ 5 rfl rfl HS1.out (.int .u64 (x : Int)) rfl rfl ?_; intro b5 w2 hb5 hc5 hs; have HS2 := Lib.hid hs; have h4 := hs.cell 1 0 rfl (by omega); clear hs)
  | ((with_reducible refine at_l ?_); refine wpList_mkF rfl 9 rfl rfl #[.pointer (some ⟨b5, 0, none⟩), .pointer (some ⟨b4, 0, none⟩)] rfl ?_)
  | (go_at_call 21; have hb2 := HS2.out.out (by simp; omega); refine (turn_out base L n i false _ s T w2 v (HL.out.below hb2) hV hi).mono ?_; rintro r w3 ⟨rfl, rfl⟩; have H1 := Lib.hid hb2; clear hb2))
 go_ret
 exact ⟨rfl, H1.out⟩
open LiveTurn in
set_option maxHeartbeats 8000000 in
theorem sco_ok (base L i h x : Nat) (s : StV) (T : Nat → Nat) (w : World) (v : Nat → TV) (hL : LV w base L s T v h) (hi : i < s.nV) (hx : x < 18446744073709551616) (hR : RightF { s with Sco := putC s.Sco i (.int .u64 (x : Int)) }) (hp : ShaPkg w) (hpB : 0 < base ∧ 1 < base) :
  Calls Tryd.prog 9 #[.pointer (some ⟨L, 0, none⟩), .int .i64 (i : Int), .int .u64 (x : Int)] w fun r w' => ∃ v', r = .returned (.int .i64 0) ∧ LV w' base L { s with Sco := putC s.Sco i (.int .u64 (x : Int)) } T v' h ∧ LStep w w' L s T v { s with Sco := putC s.Sco i (.int .u64 (x : Int)) } T v' := by
 have HL := Lib.hid hL
 have HR := Lib.hid hR
 have HP := Lib.hid hp
 have HPB := Lib.hid hpB
 have HS0 := Lib.hid (HS.nil w)
 obtain ⟨t, ht⟩ : ∃ t : StV, t = { s with Sco := putC s.Sco i (.int .u64 (x : Int)) } := ⟨_, rfl⟩
 have HT := Lib.hid ht
 have HU := Lib.hid (show UpdS i s t by rw [ht]; exact ⟨rfl, rfl, rfl, rfl, rfl, rfl, rfl, fun _ _ => rfl, fun _ _ => rfl, fun _ _ => rfl, fun k hk => if_neg hk⟩)
 rw [← ht] at HR ⊢
 have HN := Lib.hid (show i < s.nS from (hL.right.nS).symm ▸ hi)
 clear hL hR hp hpB ht
 go_enter Tryd.func9, Tryd.ntmps9
 go_wp2_with (first
  | ((with_reducible refine at_l ?_); refine wpList_box1 rfl 3 _ 4 rfl rfl HS0.out (.int .i64 (i : Int)) rfl rfl ?_; intro b4 w1 hb4 hc4 hs; have HS1 := Lib.hid hs; clear hs)
  | ((with_reducible refine at_l ?_); refine wpList_box1 rfl 22 _ 5 rfl rfl HS1.out (.int .u64 (x : Int)) rfl rfl ?_; intro b5 w2 hb5 hc5 hs; have HS2 := Lib.hid hs; have h4 := hs.cell 1 0 rfl (by omega); clear hs)
  | ((with_reducible refine at_l ?_); refine wpList_mkF rfl 9 rfl rfl #[.pointer (some ⟨b5, 0, none⟩), .pointer (some ⟨b4, 0, none⟩)] rfl ?_)
  | (go_at_call 21; have hb2 := HS2.out.out (by simp; omega); refine (turn_ok base L s.nV i h 23 ent_sw #[.pointer (some ⟨b5, 0, none⟩), .pointer (some ⟨b4, 0, none⟩)] (fun b => OnA s.aS b) s t T w2 v (HL.out.below hb2) HU.out HR.out rfl hi (HP.out.below hb2) HPB.out (fun b hb => ⟨7, hb⟩) (fun b hb => by rw [HT.out] at hb; exact hb) (fun wz hz => by rw [HT.out]; exact scow_lm wz base L b5 b4 i x s T v ((HL.out.lm.below hb2).below hz) ((hz.cell (p := ⟨b4, 0, none⟩) (HS2.out.lt 1 rfl)).trans (HS2.out.cell 1 0 rfl (show 0 < 1 by omega))) ((hz.cell (p := ⟨b5, 0, none⟩) (HS2.out.lt 0 rfl)).trans (HS2.out.cell 0 0 rfl (show 0 < 1 by omega))) HN.out hx)).mono ?_; rintro r w3 ⟨v3, rfl, h1, h2⟩; have H1 := Lib.hid h1; have H2 := Lib.hid ((LStep.refl hb2).trans h2); clear h1 h2 hb2))
 go_ret
 exact ⟨v3, rfl, H1.out, H2.out⟩
open LiveTurn in
set_option maxHeartbeats 8000000 in
theorem flg_ok (base L i h x y : Nat) (s : StV) (T : Nat → Nat) (w : World) (v : Nat → TV) (hL : LV w base L s T v h) (hi : i < s.nV) (hx : x < 256) (hy : y < 256) (hR : RightF { s with Prv := putC s.Prv i (.int .u8 (x : Int)), Cur := putC s.Cur i (.int .u8 (y : Int)) }) (hp : ShaPkg w) (hpB : 0 < base ∧ 1 < base) :
  Calls Tryd.prog 10 #[.pointer (some ⟨L, 0, none⟩), .int .i64 (i : Int), .int .u8 (x : Int), .int .u8 (y : Int)] w fun r w' => ∃ v', r = .returned (.int .i64 0) ∧ LV w' base L { s with Prv := putC s.Prv i (.int .u8 (x : Int)), Cur := putC s.Cur i (.int .u8 (y : Int)) } T v' h ∧ LStep w w' L s T v { s with Prv := putC s.Prv i (.int .u8 (x : Int)), Cur := putC s.Cur i (.int .u8 (y : Int)) } T v' := by
 have HL := Lib.hid hL
 have HR := Lib.hid hR
 have HP := Lib.hid hp
 have HPB := Lib.hid hpB
 have HS0 := Lib.hid (HS.nil w)
 obtain ⟨t, ht⟩ : ∃ t : StV, t = { s with Prv := putC s.Prv i (.int .u8 (x : Int)), Cur := putC s.Cur i (.int .u8 (y : Int)) } := ⟨_, rfl⟩
 have HT := Lib.hid ht
 have HU := Lib.hid (show UpdS i s t by rw [ht]; exact ⟨rfl, rfl, rfl, rfl, rfl, rfl, rfl, fun _ _ => rfl, fun k hk => if_neg hk, fun k hk => if_neg hk, fun _ _ => rfl⟩)
 rw [← ht] at HR ⊢
 have HN := Lib.hid (show i < s.nP from hL.right.nP.symm ▸ hi)
 have HN2 := Lib.hid (show s.nC = s.nP from hL.right.nC.trans hL.right.nP.symm)
 clear hL hR hp hpB ht
 go_enter Tryd.func10, Tryd.ntmps10
 go_wp2_with (first
  | ((with_reducible refine at_l ?_); refine wpList_box1 rfl 3 _ 5 rfl rfl HS0.out (.int .i64 (i : Int)) rfl rfl ?_; intro b5 w1 hb5 hc5 hs; have HS1 := Lib.hid hs; clear hs)
  | ((with_reducible refine at_l ?_); refine wpList_box1 rfl 5 _ 6 rfl rfl HS1.out (.int .u8 (x : Int)) rfl rfl ?_; intro b6 w2 hb6 hc6 hs; have HS2 := Lib.hid hs; clear hs)
  | ((with_reducible refine at_l ?_); refine wpList_box1 rfl 5 _ 7 rfl rfl HS2.out (.int .u8 (y : Int)) rfl rfl ?_; intro b7 w3 hb7 hc7 hs; have HS3 := Lib.hid hs; have h5 := hs.cell 2 0 rfl (by omega); clear hs)
  | ((with_reducible refine at_l ?_); refine wpList_mkF rfl 11 rfl rfl #[.pointer (some ⟨b6, 0, none⟩), .pointer (some ⟨b7, 0, none⟩), .pointer (some ⟨b5, 0, none⟩)] rfl ?_)
  | (go_at_call 21; have hb2 := HS3.out.out (by simp; omega); refine (turn_ok base L s.nV i h 24 ent_fw #[.pointer (some ⟨b6, 0, none⟩), .pointer (some ⟨b7, 0, none⟩), .pointer (some ⟨b5, 0, none⟩)] (fun b => OnA s.aP b ∨ OnA s.aC b) s t T w3 v (HL.out.below hb2) HU.out HR.out rfl hi (HP.out.below hb2) HPB.out (fun b hb => by rcases hb with hb | hb; exact ⟨5, hb⟩; exact ⟨6, hb⟩) (fun b hb => by rw [HT.out] at hb; exact hb) (fun wz hz => by rw [HT.out]; exact flgw_lm wz base L b6 b7 b5 i x y s T v ((HL.out.lm.below hb2).below hz) ((hz.cell (p := ⟨b5, 0, none⟩) (HS3.out.lt 2 rfl)).trans (HS3.out.cell 2 0 rfl (show 0 < 1 by omega))) ((hz.cell (p := ⟨b6, 0, none⟩) (HS3.out.lt 1 rfl)).trans (HS3.out.cell 1 0 rfl (show 0 < 1 by omega))) ((hz.cell (p := ⟨b7, 0, none⟩) (HS3.out.lt 0 rfl)).trans (HS3.out.cell 0 0 rfl (show 0 < 1 by omega))) HN.out HN2.out hx hy (fun ho => by have := HL.out.lm.lt ho; omega) (fun ho => by have := HL.out.lm.lt ho; omega))).mono ?_; rintro r w4 ⟨v4, rfl, h1, h2⟩; have H1 := Lib.hid h1; have H2 := Lib.hid ((LStep.refl hb2).trans h2); clear h1 h2 hb2))
 go_ret
 exact ⟨v4, rfl, H1.out, H2.out⟩
set_option maxHeartbeats 8000000 in
theorem state_look (base L : Nat) (s : StV) (T : Nat → Nat) (w : World) (v : Nat → TV) (hL : LM w base L s T v) (hR : RightF s) :
  Calls Tryd.prog 13 #[.pointer (some ⟨L, 0, none⟩)] w fun r w' => ∃ t : StV, r = .returned (.agg (arr 1957 t.F)) ∧ StOk w' w'.heap.size t ∧ SameS s t ∧ Below w.heap.size w w' := by
 have HL := Lib.hid hL
 have HR := Lib.hid hR
 have HS0 := Lib.hid (HS.nil w)
 obtain ⟨Z, hZ⟩ : ∃ Z : Nat → Value, Z = fun i => z49.getD i undef := ⟨_, rfl⟩
 have HZ := Lib.hid (show ∀ i, i < 1957 → z49[i]? = some (Z i) from fun i hi => by rw [hZ]; exact arr_getD i (by rw [z49_size]; exact hi))
 clear hZ hL hR
 go_enter Tryd.func13, Tryd.ntmps13
 go_wp2_with (first
  | ((with_reducible refine at_l ?_); refine wpList_allocL rfl 49 2 rfl rfl HS0.out z49 z49_zero 1957 Z z49_size HZ.out ?_; intro b2 w2 hb2 hc2 hs; have HS2 := Lib.hid hs; clear hs)
  | ((with_reducible refine at_l ?_); refine wpList_load_part rfl 49 (.tmp 8) rfl L 0 1957 s.F rfl _ (fun i hi => by rw [Nat.zero_add]; exact (HL.out.below (HS2.out.out (by simp; omega))).cell i hi) Tryd.underlying49 rfl (by kernel_rfl) _ rfl ?_)
  | (go_at_call 17; refine (clone_look s _ (HL.out.below (HS2.out.out (by simp; omega))).ok HR.out.n (HR.out.nB ▸ HR.out.n) (HR.out.nP ▸ HR.out.n) (HR.out.nC ▸ HR.out.n) (HR.out.nS ▸ HR.out.n) (Nat.le_trans HR.out.nH (by omega)) (Nat.le_trans HR.out.nE (by omega))).mono ?_; rintro r w3 ⟨t, rfl, hok, hown, hap, hsame, hb⟩; have HOk := Lib.hid hok; have HOw := Lib.hid hown; have HSm := Lib.hid hsame; have H1 := Lib.hid (st_one hok); have HS3 := Lib.hid (HS2.out.below hb); have hl2 : b2 < w2.heap.size := HS2.out.lt 0 rfl; clear hok hown hap hsame hb)
  | ((with_reducible refine at_l ?_); refine PickDraw.wpList_storeHG rfl 49 (.tmp 2) (.tmp 10) rfl HS3.out 0 rfl t.F rfl rfl (by kernel_rfl) H1.out ?_; intro w4 hs hg; have HS4 := Lib.hid hs; have HG4 := Lib.hid hg; clear hs hg))
 have ho : StOwn w4 w2.heap.size t := by
  have key : ∀ {e : TypeId} {z n c : Nat} {A : Option Addr} {f : Nat → Value}, OwnZ w3 w2.heap.size e z A n c f → OwnZ w4 w2.heap.size e z A n c f := fun k => k.kept HG4.out (fun ad e => by have := (k.base_le ad e).1; intro e2; injection e2 with e2; omega)
  exact ⟨key HOw.out.H, key HOw.out.E, key HOw.out.V, key HOw.out.B, key HOw.out.P, key HOw.out.C, key HOw.out.S⟩
 exact ret_rowIs rfl (HS4.out.row 0 rfl) _ rfl Tryd.underlying49 rfl (by kernel_rfl) rfl ⟨t, rfl, HOk.out.of_own ho, HSm.out, HS4.out.out (by simp; omega)⟩
end Go.Proofs.YtomilckcgmhfcaaDoor
