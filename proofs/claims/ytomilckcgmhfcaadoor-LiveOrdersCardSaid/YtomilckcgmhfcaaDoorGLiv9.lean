/- A part of what the proofs stand on: ShufRounds, ShufWalk, ShufClone, OwnNew, ShufLawOps, PickDraw, Chg, StCopy, MerklePack, Hash. -/
import Derived.Test.YtomilckcgmhfcaaDoorGLiv8
import Derived.Test.YtomilckcgmhfcaaDoorGLiv6
import Derived.Test.YtomilckcgmhfcaaDoorGLiv4
import Derived.Test.YtomilckcgmhfcaaDoorGLiv7
import Derived.Lib.SliceRun
import Derived.Test.YtomilckcgmhfcaaDoorGLiv5
import Derived.Test.YtomilckcgmhfcaaDoorGLiv2
import Derived.Test.YtomilckcgmhfcaaDoorGLiv1
import Derived.Lib.ItoaNum
import Derived.ScopeJumps
import Derived.Shelf.Spec.BitsCarry
/- The rounds of a shuffle: their pivots and their digests. -/
namespace Go.Proofs.YtomilckcgmhfcaaDoor
set_option maxRecDepth 40000
open Go.RowKit
theorem one_at (v : Value) (i : Nat) (hi : i < 1) : (#[v] : Array Value)[i]? = some v := by
 obtain rfl : i = 0 := by omega
 rfl
section
variable {P : Program}
/-- A new slice of one number. -/
theorem wpList_bs1s {ops : Array Oper} {rest : List Oper} {o : Oper} {a : Act} {w w0 : World} {Q : Exit → Act → World → Prop} {rows : List RowSpec} (hgd : o.guard = none) {t e : TypeId} (x : Operand) (v : Value) (ho : o.op = .buildSlice t 1 #[(0, x)]) (hx : a.eval x = v) (hr : ∀ w : World, (Instr.buildSlice t 1 #[(0, v)]).run P w = .ok (.slice (some ⟨w.heap.size, 0, none⟩) 1 1) (w.alloc (.cells #[v] e))) (h : HS w0 w rows)
  (hK : ∀ b w', w0.heap.size ≤ b → w.heap.size ≤ b → Below w.heap.size w w' → HS w0 w' (⟨b, e, 1, fun _ => v⟩ :: rows) → wpList P ops Q rest (a.put o.dst (.slice (some ⟨b, 0, none⟩) 1 1)) w') : wpList P ops Q (o :: rest) a w :=
 wpList_plain hgd fun _ hK' => by
  have hrun : (execOp a.eval o).run P w = .ok (.value (.slice (some ⟨w.heap.size, 0, none⟩) 1 1)) (w.alloc (.cells #[v] e)) := by
   unfold execOp
   rw [ho]
   simp only [List.map_toArray, List.map_cons, List.map_nil, hx]
   simp [hr]
  unfold Oper.wp
  rw [hrun]
  exact hK' _ _ (hK _ _ h.size (Nat.le_refl _) ((Below.refl _ _).alloc (Nat.le_refl _) _) (h.alloc #[v] e 1 (fun _ => v) rfl (fun i hi => one_at v i hi)))
end
/-- A row of the call's own that grows in memory that is followed. -/
theorem HS.appO {w0 w w' : World} {rows : List RowSpec} {A : Option Addr} (h : HS w0 w rows) (hg : w.grownBy w' (A.map (·.block))) {B : Nat} (hA : ∀ ad, A = some ad → B ≤ ad.block) (hr : w0.heap.size ≤ B ∧ ∀ r ∈ rows, r.b < B) : HS w0 w' rows :=
 ⟨hg.os.trans h.os, hg.tape.trans h.tape, hg.output.trans h.output, Nat.le_trans h.size hg.size, fun k hk hr' => (hg.block k (Nat.lt_of_lt_of_le hk h.size) (fun e => by
  cases A with
  | none => cases e
  | some ad => injection e with e; have e' : k = ad.block := e; have := hA ad rfl; have := hr.1; omega)).trans (h.block k hk hr'), fun r hr' => (h.has r hr').of_block (hg.block r.b (h.has r hr').lt (fun e => by
  cases A with
  | none => cases e
  | some ad => injection e with e; have e' : r.b = ad.block := e; have := hA ad rfl; have := hr.2 r hr'; omega)), h.apart⟩
namespace ShufRounds
end ShufRounds
end Go.Proofs.YtomilckcgmhfcaaDoor
/- Blocks of bits, and places that walk through rounds. -/
namespace Go.Proofs.YtomilckcgmhfcaaDoor
set_option maxRecDepth 40000
open Go.RowKit
/-- A pointer is loaded from where it lies. -/
theorem run_ldPtr {P : Program} (w : World) (ad : Addr) (ty e : TypeId) (v : Value) (h : w.cell? ad = some v) (hu : P.underlying ty = some (.pointer e)) : (Instr.loadAt ty (.pointer (some ad))).run P w = .ok v w := by
 simp only [Instr.loadAt, Instr.sureAddr, Sem.run_bind, Sem.run_pure, Result.andThen]
 have hagg : (isAgg ty).run P w = .ok false w := by
  unfold isAgg
  rw [Sem.run_bind, run_underlying hu w]
  rfl
 simp [loadVar, Sem.run_bind, hagg, h]
namespace ShufWalk
end ShufWalk
end Go.Proofs.YtomilckcgmhfcaaDoor
/- slices.Clone of a list of numbers; new slices whose length is a number of 64 bits. -/
namespace Go.Proofs.YtomilckcgmhfcaaDoor
set_option maxRecDepth 40000
open Go.RowKit
section
variable {P : Program}
end
/-- Numbers as a value. -/
abbrev u64v (f : Nat → Nat) : Nat → Value := fun i => .int .u64 ((f i : Nat) : Int)
theorem ex_eqN {o : Oper} {a : Act} {ty rt : TypeId} {x : Operand} {u : Value} {b : Bool} {w : World} (ho : o.op = .binOp .eql ty x (.const (.slice none 0 0)) rt) (hx : a.eval x = u) (hr : (binOp .eql ty u (.slice none 0 0)).run Tryd.prog w = .ok (.bool b) w) : (execOp a.eval o).run Tryd.prog w = .ok (.value (.bool b)) w := by
 unfold execOp
 rw [ho]
 have h2 : a.eval (.const (.slice none 0 0)) = .slice none 0 0 := rfl
 simp only [hx, h2]
 simp [eqGuard, hr]
end Go.Proofs.YtomilckcgmhfcaaDoor
/- A new variable in a region in which rows are taken over. -/
namespace Go.Proofs.YtomilckcgmhfcaaDoor
set_option maxRecDepth 40000
open Go.RowKit
def footP : Value → Option Nat
 | .pointer (some a) => some a.block
 | _ => none
def OF.new (base : Nat) (t : TypeId) (n : Nat) (f : Nat → Value) : OF :=
 ⟨fun v w => ∃ b, v = .pointer (some ⟨b, 0, none⟩) ∧ base ≤ b ∧ w.rowIs b t n f, footP,
  fun _ _ _ row ⟨b, e1, h1, h⟩ hg hne => ⟨b, e1, h1, h.of_block (hg.block b h.lt (fun er => hne b (by rw [e1]; rfl) er.symm))⟩,
  fun _ _ b ⟨b', e1, _, h⟩ hf => by subst e1; injection hf with hf; subst hf; exact h.lt⟩
section
variable {P : Program} {ops : Array Oper} {B : Nat} {w0 : World} {o : Oper} {lk : Tmp → OF}
theorem opObO_new (base : Nat) {t : TypeId} (hg : o.guard = none) (hop : o.op = .alloc t) (cs : Array Value) (hz : (P.info? t).bind (·.zero) = some (.agg cs)) (n : Nat) (f : Nat → Value) (hn : cs.size = n) (hc : ∀ i, i < n → cs[i]? = some (f i)) (hb : base ≤ w0.heap.size) : opObO P ops B w0 o (OF.new base t n f) lk none :=
 opObO_of hg fun a w hbel hf => by
  have hr : (Instr.alloc t true (.tuple #[])).run P w = .ok (.pointer (some ⟨w.heap.size, 0, none⟩)) (w.alloc (.cells cs t)) := by
   cases hq : P.info? t with
   | none => rw [hq] at hz; simp at hz
   | some i =>
    rw [hq] at hz
    simp at hz
    simp [Instr.alloc, zeroValue, typeInfo, hq, hz, newVar, Value.cells, go_sem]
  unfold Oper.wp execOp
  simp only [hop, Sem.run_bind, hr, Result.andThen_ok, Sem.run_pure]
  have h0 := (HS.nil w).alloc cs t n f hn hc
  have hbw := h0.out (by simp)
  exact ⟨_, none, rfl, ⟨w.heap.size, rfl, Nat.le_trans hb hbel.size, h0.row 0 rfl⟩, ⟨hbw.os, hbw.tape, hbw.output, hbw.size, fun k hk _ => hbw.block k hk⟩, (fun b hb => by cases hb), (fun b hb => by injection hb with hb; subst hb; exact .inl (Nat.le_refl _))⟩
end
end Go.Proofs.YtomilckcgmhfcaaDoor
/- Numbers of 64 bits that wrap around, and rows of them, as the laws of this chapter use them. (Printed by a program of mine.) -/
namespace Go.Proofs.YtomilckcgmhfcaaDoor
set_option maxRecDepth 40000
open Go.RowKit
namespace ShufLawOps
theorem remU (m c r : Nat) (hc : 0 < c) (h : m % c = r) (hm : m < 18446744073709551616) (w : World) : (binOp .rem 22 (.int .u64 (m : Int)) (.int .u64 (c : Int))).run Tryd.prog w = .ok (.int .u64 (r : Int)) w := by
 subst h
 have h2 : m % c < 18446744073709551616 := Nat.lt_of_le_of_lt (Nat.mod_le _ _) hm
 have h3 : (m : Int).tmod (c : Int) = ((m % c : Nat) : Int) := by rw [Int.tmod_eq_emod_of_nonneg (by omega)]; simp
 simp [go_sem, h3]
 try omega
section
variable {P : Program}
/-- One cell of row k is laid; the world is a letter. -/
theorem wpList_st1 {ops : Array Oper} {rest : List Oper} {o : Oper} {a : Act} {w w0 : World} {Q : Exit → Act → World → Prop} {rows : List RowSpec} (hgd : o.guard = none) (ty : TypeId) (x y : Operand) (ho : o.op = .store ty x y) (h : HS w0 w rows) (k : Nat) {b : Nat} {t : TypeId} {n : Nat} {f : Nat → Value} (hk : rows[k]? = some ⟨b, t, n, f⟩) (off : Nat) (v : Value)
  (hst : ∀ (w : World) (ad : Addr) (u : Value), w.cell? ad = some u → w.frozen? ad = false → (Instr.storeAt ty (.pointer (some ad)) v).run P w = .ok () (w.setCell ad v)) (hx : a.eval x = .pointer (some ⟨b, off, none⟩)) (hy : a.eval y = v) (hfit : off < n)
  (g : Nat → Value) (hg : ∀ j, j < n → (if j = off then v else f j) = g j)
  (hK : ∀ w', HS w0 w' (rows.set k ⟨b, t, n, g⟩) → w.grownBy w' (some b) → wpList P ops Q rest (a.put o.dst undef) w') : wpList P ops Q (o :: rest) a w :=
 wpList_plain hgd fun _ hK' => by
  have hrun := hst w ⟨b, off, none⟩ _ (h.cell k off hk hfit) (h.frozen k off hk)
  unfold Oper.wp execOp
  simp only [ho, hx, hy, Sem.run_bind, hrun, Result.andThen_ok, Sem.run_pure]
  refine hK' _ _ (hK _ ?_ (grown_setCell (World.grownBy.refl _ _) (.inl rfl) _))
  have h1 := (h.set k off hk v).congr k (g := g) (b := b) (t := t) (n := n) (f := fun j => if j = off then v else f j) (by
   obtain ⟨hk', _⟩ := List.getElem?_eq_some_iff.1 hk
   rw [List.getElem?_set]; simp [hk']) hg
  rwa [List.set_set] at h1
end
theorem stU (m : Int) (w : World) (ad : Addr) (u : Value) (h : w.cell? ad = some u) (hf : w.frozen? ad = false) : (Instr.storeAt 22 (.pointer (some ad)) (.int .u64 m)).run Tryd.prog w = .ok () (w.setCell ad (.int .u64 m)) := by
 simp [go_sem, h, hf]
end ShufLawOps
end Go.Proofs.YtomilckcgmhfcaaDoor
/- The walk of draw. (Printed by a program of mine.) -/
namespace Go.Proofs.YtomilckcgmhfcaaDoor
set_option maxRecDepth 40000
open Go.RowKit
namespace PickDraw
theorem run_ldSl {P : Program} (w : World) (ad : Addr) (ty e : TypeId) (v : Value) (h : w.cell? ad = some v) (hu : P.underlying ty = some (.slice e)) : (Instr.loadAt ty (.pointer (some ad))).run P w = .ok v w := by
 simp only [Instr.loadAt, Instr.sureAddr, Sem.run_bind, Sem.run_pure, Result.andThen]
 have hagg : (isAgg ty).run P w = .ok false w := by
  unfold isAgg
  rw [Sem.run_bind, run_underlying hu w]
  rfl
 simp [loadVar, Sem.run_bind, hagg, h]
theorem remIN (i n r : Nat) (hn : 0 < n) (h : i % n = r) (w : World) : (binOp .rem 3 (.int .i64 (i : Int)) (.int .i64 (n : Int))).run Tryd.prog w = .ok (.int .i64 (r : Int)) w := by
 subst h
 have h3 : (i : Int).tmod (n : Int) = ((i % n : Nat) : Int) := by rw [Int.tmod_eq_emod_of_nonneg (by omega)]; simp

 simp [go_sem, h3]
 try omega
section
variable {P : Program}
/-- A whole array is laid into row k; the world is a letter, and just this row was written. -/
theorem wpList_storeHG {ops : Array Oper} {rest : List Oper} {o : Oper} {a : Act} {w w0 : World} {Q : Exit → Act → World → Prop} {rows : List RowSpec} (hgd : o.guard = none) (ty : TypeId) (x y : Operand) (ho : o.op = .store ty x y) (h : HS w0 w rows) (k : Nat) {b : Nat} {t : TypeId} {n : Nat} {f : Nat → Value} (hk : rows[k]? = some ⟨b, t, n, f⟩)
  (g : Nat → Value) (hx : a.eval x = .pointer (some ⟨b, 0, none⟩)) (hy : a.eval y = .agg (arr n g)) (hi : (P.info? ty).map (·.size) = some n) (h1 : ∀ i, i < n → (g i).oneCell' = true)
  (hK : ∀ w', HS w0 w' (rows.set k ⟨b, t, n, g⟩) → w.grownBy w' (some b) → wpList P ops Q rest (a.put o.dst undef) w') : wpList P ops Q (o :: rest) a w :=
 wpList_store_arr hgd ty x y ho (h.row k hk) (arr n g) hx hy (size_arr _ _) hi (fun i hi => ⟨_, arr_at _ _ i hi, h1 i hi⟩) (hK _ (h.setRow k hk (arr n g) (size_arr _ _) g (fun i hi => arr_at _ _ i hi)) ⟨rfl, rfl, rfl, by rw [size_setRow]; exact Nat.le_refl _, fun i _ hne => by
  unfold World.setRow
  have : ¬ b = i := fun e => hne (by rw [e])
  simp [Array.getElem?_modify, this]⟩)
end
end PickDraw
end Go.Proofs.YtomilckcgmhfcaaDoor
/- What a call changed: only the blocks of a set, and new ones. -/
namespace Go.Proofs.YtomilckcgmhfcaaDoor
set_option maxRecDepth 40000
open Go.RowKit
/-- Only blocks of S, and blocks that w has not, may differ. -/
structure Chg (S : Nat → Prop) (w w' : World) : Prop where
 os : w'.os = w.os
 tape : w'.tape = w.tape
 output : w'.output = w.output
 size : w.heap.size ≤ w'.heap.size
 block : ∀ k, k < w.heap.size → ¬ S k → w'.heap[k]? = w.heap[k]?
section
variable {S S' : Nat → Prop} {w w1 w' : World}
theorem Chg.refl (S : Nat → Prop) (w : World) : Chg S w w := ⟨rfl, rfl, rfl, Nat.le_refl _, fun _ _ _ => rfl⟩
theorem Chg.trans (h : Chg S w w1) (k : Chg S' w1 w') (hs : ∀ b, S' b → S b ∨ w.heap.size ≤ b) : Chg S w w' :=
 ⟨k.os.trans h.os, k.tape.trans h.tape, k.output.trans h.output, Nat.le_trans h.size k.size, fun b hb hn => (k.block b (Nat.lt_of_lt_of_le hb h.size) (fun h1 => by
  rcases hs b h1 with h2 | h2
  ·exact hn h2
  ·omega)).trans (h.block b hb hn)⟩
theorem Chg.mono (h : Chg S w w') (hs : ∀ b, b < w.heap.size → S b → S' b) : Chg S' w w' :=
 ⟨h.os, h.tape, h.output, h.size, fun b hb hn => h.block b hb (fun h1 => hn (hs b hb h1))⟩
theorem Chg.of_below (h : Below w.heap.size w w') : Chg S w w' := ⟨h.os, h.tape, h.output, h.size, fun b hb _ => h.block b hb⟩
theorem Chg.of_grown {r : Option Nat} (h : w.grownBy w' r) (hs : ∀ b, r = some b → S b ∨ w.heap.size ≤ b) : Chg S w w' :=
 ⟨h.os, h.tape, h.output, h.size, fun b hb hn => h.block b hb (fun e => by
  rcases hs b e.symm with h1 | h1
  ·exact hn h1
  ·omega)⟩
theorem Chg.below (h : Chg S w w') {B : Nat} (hB : B ≤ w.heap.size) (hs : ∀ b, S b → B ≤ b) : Below B w w' :=
 ⟨h.os, h.tape, h.output, h.size, fun b hb => h.block b (by omega) (fun h1 => by have := hs b h1; omega)⟩
theorem Chg.row (h : Chg S w w') {b : Nat} {t : TypeId} {n : Nat} {f : Nat → Value} (hr : w.rowIs b t n f) (hn : ¬ S b) : w'.rowIs b t n f := hr.of_block (h.block _ hr.lt hn)
theorem OwnZ.blk {base z n c : Nat} {e : TypeId} {A : Option Addr} {f : Nat → Value} (h : OwnZ w base e z A n c f) (hk : ∀ ad, A = some ad → w'.heap[ad.block]? = w.heap[ad.block]?) : OwnZ w' base e z A n c f := by
 obtain ⟨h1, h2⟩ := h
 refine ⟨h1, ?_⟩
 rcases h2 with h2 | ⟨g, cap, cur, hv, hg, hh, r⟩
 ·exact .inl h2
 ·refine .inr ⟨g, cap, cur, hv, hg, ?_, r⟩
  have hA : A = some ⟨g, 0, none⟩ := by injection hv
  rw [hk _ hA]
  exact hh
theorem Chg.own (h : Chg S w w') {base z n c : Nat} {e : TypeId} {A : Option Addr} {f : Nat → Value} (ho : OwnZ w base e z A n c f) (hn : ∀ ad, A = some ad → ¬ S ad.block) : OwnZ w' base e z A n c f :=
 ho.blk fun ad e => h.block _ (ho.base_le ad e).2 (hn ad e)
end
/-- A block of a slice. -/
def OnA (A : Option Addr) (b : Nat) : Prop := ∃ ad : Addr, A = some ad ∧ ad.block = b
theorem OwnZ.on {w : World} {base z n c : Nat} {e : TypeId} {A : Option Addr} {f : Nat → Value} (h : OwnZ w base e z A n c f) {b : Nat} (hb : OnA A b) : base ≤ b ∧ b < w.heap.size := by
 obtain ⟨ad, e, rfl⟩ := hb; exact h.base_le ad e
end Go.Proofs.YtomilckcgmhfcaaDoor
/- A state's copy: all its lists are its own. (Printed by a program of mine.) -/
namespace Go.Proofs.YtomilckcgmhfcaaDoor
set_option maxRecDepth 40000
open Go.RowKit
/-- The lists of a state are its own: what lies from base on. -/
structure StOwn (w : World) (base : Nat) (s : StV) : Prop where
 H : OwnZ w base 24 32 s.aH s.nH s.cH s.His
 E : OwnZ w base 34 65 s.aE s.nE s.cE s.Vot
 V : OwnZ w base 66 86 s.aV s.nV s.cV s.V
 B : OwnZ w base 22 1 s.aB s.nB s.cB s.Bal
 P : OwnZ w base 5 1 s.aP s.nP s.cP s.Prv
 C : OwnZ w base 5 1 s.aC s.nC s.cC s.Cur
 S : OwnZ w base 22 1 s.aS s.nS s.cS s.Sco
theorem StOwn.all {w w' : World} {base : Nat} {s : StV} (h : StOwn w base s) (hb : Below w.heap.size w w') : StOwn w' base s := ⟨h.H.all hb, h.E.all hb, h.V.all hb, h.B.all hb, h.P.all hb, h.C.all hb, h.S.all hb⟩
theorem StOwn.mono {w : World} {base base' : Nat} {s : StV} (h : StOwn w base s) (hb : base' ≤ base) : StOwn w base' s := ⟨h.H.mono hb, h.E.mono hb, h.V.mono hb, h.B.mono hb, h.P.mono hb, h.C.mono hb, h.S.mono hb⟩
theorem ex_ldSl {P : Program} {w : World} {o : Oper} {a : Act} {ty e : TypeId} {x : Operand} {ad : Addr} {u v : Value} (ho : o.op = .load ty x) (hx : a.eval x = .pointer (some ad)) (hu : P.underlying ty = some (.slice e)) (h : w.cell? ad = some u) (hv : u = v) : (execOp a.eval o).run P w = .ok (.value v) w := by
 subst hv
 unfold execOp
 rw [ho]
 simp only [hx]
 simp [PickDraw.run_ldSl w ad ty e u h hu]
/-- The cells of a state are one cell each. -/
theorem st_one {s : StV} {w : World} {B : Nat} (h : StOk w B s) : ∀ i, i < 1957 → (s.F i).oneCell' = true := fun i hi => by
 have hall : (List.range 1957).all (fun q => match leafAt Tryd.prog 8 49 q with | some l => l == 22 || l == 5 || l == 4 || (q == 653 || q == 719 || q == 721 || q == 722 || q == 987 || q == 988 || q == 1092) | none => false) = true := by kernel_rfl
 have h1 := List.all_eq_true.1 hall i (List.mem_range.2 hi)
 cases hl : leafAt Tryd.prog 8 49 i with
 | none => rw [hl] at h1; cases h1
 | some l =>
  rw [hl] at h1
  simp only [Bool.or_eq_true, beq_iff_eq] at h1
  rcases h1 with ((rfl | rfl) | rfl) | ((((((rfl | rfl) | rfl) | rfl) | rfl) | rfl) | rfl)
  ·rw [(h.sc.u64 i hl).1]; rfl
  ·rw [(h.sc.u8 i hl).1]; rfl
  ·rw [h.sc.bool i hl]; rfl
  ·rw [h.f7]; rfl
  ·rw [h.f9]; rfl
  ·rw [h.f11]; rfl
  ·rw [h.f12]; rfl
  ·rw [h.f15]; rfl
  ·rw [h.f16]; rfl
  ·rw [h.f21]; rfl
namespace StCopy
theorem bs0R (w : World) : (Instr.buildSlice 32 0 #[]).run Tryd.prog w = .ok (.slice (some ⟨w.heap.size, 0, none⟩) 0 0) (w.alloc (.cells #[] 24)) := by simp [go_sem]
theorem bs0E (w : World) : (Instr.buildSlice 35 0 #[]).run Tryd.prog w = .ok (.slice (some ⟨w.heap.size, 0, none⟩) 0 0) (w.alloc (.cells #[] 34)) := by simp [go_sem]
theorem bs0V (w : World) : (Instr.buildSlice 36 0 #[]).run Tryd.prog w = .ok (.slice (some ⟨w.heap.size, 0, none⟩) 0 0) (w.alloc (.cells #[] 66)) := by simp [go_sem]
theorem bs064 (w : World) : (Instr.buildSlice 37 0 #[]).run Tryd.prog w = .ok (.slice (some ⟨w.heap.size, 0, none⟩) 0 0) (w.alloc (.cells #[] 22)) := by simp [go_sem]
theorem bs08 (w : World) : (Instr.buildSlice 39 0 #[]).run Tryd.prog w = .ok (.slice (some ⟨w.heap.size, 0, none⟩) 0 0) (w.alloc (.cells #[] 5)) := by simp [go_sem]
theorem stSlR (A : Option Addr) (n c : Nat) (w : World) (ad : Addr) (u : Value) (h : w.cell? ad = some u) (hf : w.frozen? ad = false) : (Instr.storeAt 32 (.pointer (some ad)) (.slice A n c)).run Tryd.prog w = .ok () (w.setCell ad (.slice A n c)) := by
 simp [go_sem, h, hf]
theorem stSlE (A : Option Addr) (n c : Nat) (w : World) (ad : Addr) (u : Value) (h : w.cell? ad = some u) (hf : w.frozen? ad = false) : (Instr.storeAt 35 (.pointer (some ad)) (.slice A n c)).run Tryd.prog w = .ok () (w.setCell ad (.slice A n c)) := by
 simp [go_sem, h, hf]
theorem stSlV (A : Option Addr) (n c : Nat) (w : World) (ad : Addr) (u : Value) (h : w.cell? ad = some u) (hf : w.frozen? ad = false) : (Instr.storeAt 36 (.pointer (some ad)) (.slice A n c)).run Tryd.prog w = .ok () (w.setCell ad (.slice A n c)) := by
 simp [go_sem, h, hf]
theorem stSl64 (A : Option Addr) (n c : Nat) (w : World) (ad : Addr) (u : Value) (h : w.cell? ad = some u) (hf : w.frozen? ad = false) : (Instr.storeAt 37 (.pointer (some ad)) (.slice A n c)).run Tryd.prog w = .ok () (w.setCell ad (.slice A n c)) := by
 simp [go_sem, h, hf]
theorem stSl8 (A : Option Addr) (n c : Nat) (w : World) (ad : Addr) (u : Value) (h : w.cell? ad = some u) (hf : w.frozen? ad = false) : (Instr.storeAt 39 (.pointer (some ad)) (.slice A n c)).run Tryd.prog w = .ok () (w.setCell ad (.slice A n c)) := by
 simp [go_sem, h, hf]
noncomputable def zV : Value := ((Tryd.prog.info? 66).bind (·.zero)).getD undef
noncomputable def zE : Value := ((Tryd.prog.info? 34).bind (·.zero)).getD undef
theorem zV_info : (Tryd.prog.info? 66).map (fun i => (i.zero, i.size, i.bytes)) = some (some zV, 86, 128) := by kernel_rfl
theorem zE_info : (Tryd.prog.info? 34).map (fun i => (i.zero, i.size, i.bytes)) = some (some zE, 65, 72) := by kernel_rfl
theorem zV_size : zV.cells.size = 86 := by kernel_rfl
theorem zE_size : zE.cells.size = 65 := by kernel_rfl
theorem one_list {T : TypeId} {n z : Nat} {G : Nat → Value} (h : ∀ i, i < n → Sc (fun q => G (i * z + q)) T) (hall : (List.range z).all (fun q => match leafAt Tryd.prog 8 T q with | some l => l == 22 || l == 5 || l == 4 | none => false) = true) : ∀ i, i < n * z → (G i).oneCell' = true := fun i hi => by
 have hz : 0 < z := by
  rcases Nat.eq_zero_or_pos z with h0 | h0
  ·subst h0; omega
  ·exact h0
 have h1 : i / z < n := Nat.div_lt_of_lt_mul (by rwa [Nat.mul_comm])
 obtain ⟨v, hv, h2⟩ := Sc.one (h _ h1) hall (i % z) (Nat.mod_lt _ hz)
 have h3 := arr_at z (fun q => G (i / z * z + q)) (i % z) (Nat.mod_lt _ hz)
 rw [h3] at hv
 injection hv with hv
 have e : i / z * z + i % z = i := by rw [Nat.mul_comm]; exact Nat.div_add_mod i z
 rw [← hv, e] at h2
 exact h2
end StCopy
end Go.Proofs.YtomilckcgmhfcaaDoor
/- Packed bytes, by the program. (Printed by a program of mine.) -/
namespace Go.Proofs.YtomilckcgmhfcaaDoor
set_option maxRecDepth 40000
open Go.RowKit
namespace MerklePack
theorem lay (n j m N : Nat) (x : Nat → Nat) (hm : m = min (n - 32 * j) 32) (hj : 32 * j ≤ n) : ∀ i, i < N * 32 → (if j * 32 ≤ i ∧ i < j * 32 + m then u8v (fun q => x (32 * j + q)) (i - j * 32) else u8v (fun i => if i < j * 32 then padN n x i else 0) i) = u8v (fun i => if i < (j + 1) * 32 then padN n x i else 0) i := fun i _ => by
 unfold padN
 by_cases h : j * 32 ≤ i ∧ i < j * 32 + m
 ·rw [if_pos h]; simp only [u8v]; rw [if_pos (by omega), if_pos (by omega), show 32 * j + (i - j * 32) = i by omega]
 ·rw [if_neg h]; simp only [u8v]
  by_cases h1 : i < j * 32
  ·rw [if_pos h1, if_pos (show i < (j + 1) * 32 by omega)]
  ·rw [if_neg h1]
   by_cases h2 : i < (j + 1) * 32
   ·rw [if_pos h2, if_neg (by omega)]
   ·rw [if_neg h2]
end MerklePack
open MerklePack in
set_option maxHeartbeats 4000000 in
theorem pack_look (n c : Nat) (A : Option Addr) (x : Nat → Nat) (w : World) (hb : Rd w w.heap.size A n (u8v x)) (hnc : n ≤ c) (hn : n ≤ 140737488355000) :
  Calls Tryd.prog 62 #[.slice A n c] w fun e w' => ∃ A' c', e = .returned (.slice A' (nch n) c') ∧ OwnZ w' w.heap.size 24 32 A' (nch n) c' (u8v (padN n x)) ∧ Below w.heap.size w w' := by
 have HB := Lib.hid hb
 have HS0 := Lib.hid (HS.nil w)
 obtain ⟨N, hN⟩ : ∃ N, N = nch n := ⟨_, rfl⟩
 have hN1 : N * 32 < n + 32 := by rw [hN]; unfold nch; omega
 have hN2 : n ≤ N * 32 := by rw [hN]; unfold nch; omega
 have HNe := Lib.hid hN.symm
 have HD := Lib.hid (show ((n : Int) + 31) / 32 = (N : Int) by omega)
 rw [← hN]
 clear hb hN
 go_enter Tryd.func62, Tryd.ntmps62
 go_wp2_with (first
  | (refine wpList_makeL rfl 32 (e := 24) (z := .agg (Array.replicate 32 (.int .u8 0))) (k := 32) (bytes := 32) Tryd.underlying32 (by kernel_rfl) (.tmp 8) (.tmp 8) rfl N (by simp [Act.eval, HD.out]) (by simp [Act.eval, HD.out]) (u8v fun i => if i < 0 * 32 then padN n x i else 0) (fun i hi => (made_u8 32 _ (by omega) i hi).trans (congrArg some (by simp [u8v]))) (by omega) (by omega) HS0.out ?_; intro b w1 hb1 hc1 hs; have HS1 := Lib.hid hs; clear hs))
 go_loopw [12] (fun i wq => ∃ j : Nat, i = .int .i64 (j : Int) ∧ j ≤ N ∧ HS w wq [⟨b, 24, N * 32, u8v fun i => if i < j * 32 then padN n x i else 0⟩]) (fun i _ => N - (intOf i).toNat)
 case atStart => exact ⟨0, rfl, by omega, HS1.out⟩
 case round =>
  clear HS1
  obtain ⟨j, rfl, hj, hs⟩ := hrel
  have HSq := Lib.hid hs
  clear hs
  by_cases hjn : j < N
  ·obtain ⟨A2, hct⟩ := cut_from (P := Tryd.prog) Tryd.underlying39 (by kernel_rfl) A n c (32 * j) (by omega) hnc
   have HCt := Lib.hid hct
   obtain ⟨m, hm⟩ : ∃ m, m = min (n - 32 * j) 32 := ⟨_, rfl⟩
   clear hct
   go_wp2_with fail
   refine wp_region_factsS (l := [_, _, _, _, _, _, _, _]) (tl := []) (B := wr.heap.size) (w0 := wr) [SF.is (.slice (some ⟨b, 0, none⟩) (N) (N)), SF.is (.int .i64 ((j : Nat) : Int)), SF.is (.pointer (some ⟨b, j * 32, none⟩)), SF.is (.slice (some ⟨b, j * 32, none⟩) (32) (32)), SF.is (.slice (A) (n) (c)), SF.is (.int .i64 ((j : Nat) : Int)), SF.is (.int .i64 ((32 * j : Nat) : Int)), SF.is (.slice (A2) (n - 32 * j) (c - 32 * j))] (by kernel_rfl) (by kernel_rfl) rfl (Nat.le_refl _) (Below.refl _ _) ⟨?_, ?_, ?_, ?_, ?_, ?_, ?_, ?_, trivial⟩ ?_
   ·exact (opOb_move _ rfl (.inl rfl) rfl)
   ·exact (opOb_move _ rfl (.inl rfl) rfl)
   ·exact opOb_idx rfl rfl (OpK.tmp rfl) (OpK.tmp rfl) (fun w => (run_idxZ (z := 32) w Tryd.underlying32 (by kernel_rfl) ⟨b, 0, none⟩ hjn).trans (by rw [add_lit0]))
   ·exact opOb_slc rfl rfl (OpK.tmp rfl) (OpKo.no) (OpKo.no) (fun w => cut_arr Tryd.underlying24 1 (by kernel_rfl) none none (0) (32) (.inl ⟨rfl, rfl⟩) (.inl ⟨rfl, rfl⟩) (by omega) (by omega) (by omega) (by omega) (by omega) (by omega))
   ·exact (opOb_move _ rfl (.inl rfl) rfl)
   ·exact (opOb_move _ rfl (.inl rfl) rfl)
   ·exact opOb_nmul 32 j (by omega) rfl rfl OpK.const (OpK.tmp rfl)
   ·exact opOb_slc rfl rfl (OpK.tmp rfl) (OpKo.tmp rfl) OpKo.no (fun w => HCt.out.1 w)
   ·intro w' hb
    simp only [fin, SF.is, forall_eq]
    simp only [pcX]
    have hs := HSq.out.below hb
    refine wp_copyL rfl Tryd.underlying39 (by kernel_rfl) hs 0 rfl (j * 32) 32 32 (HCt.out.2.rd (HB.out.below (hs.out (by simp; omega)))) (fun _ _ => rfl) m hm (by omega) rfl rfl _ (lay n j m N x hm (by omega)) ?_
    clear hs hb
    intro wy hs
    have HY := Lib.hid hs
    clear hs
    simp only [seqWp, Act.put, List.setIfInBounds_toArray, List.set_cons_succ, List.set_cons_zero]
    go_wp2_with fail
    go_roundw
    case rel => exact ⟨j + 1, by go_num, by omega, HY.out⟩
    case measure => simp [intOf]; omega
  ·obtain rfl : j = N := by omega
   go_wp2_with fail
   go_ret
   exact ⟨_, _, rfl, (OwnZ.of_row (HSq.out.row 0 rfl) hb1 (by unfold maxLen; omega)).congr (fun i hi => by simp only [u8v]; rw [if_pos hi]), HSq.out.out (by simp; omega)⟩
end Go.Proofs.YtomilckcgmhfcaaDoor
/- wire.Hash: chunks that are gathered. -/
namespace Go.Proofs.YtomilckcgmhfcaaDoor
set_option maxRecDepth 40000
open Go.RowKit
theorem OwnZ.hs {w0 w : World} {rows : List RowSpec} {base z n c : Nat} {e : TypeId} {A : Option Addr} {f : Nat → Value} (h : OwnZ w0 base e z A n c f) (hs : HS w0 w rows) (hne : ∀ ad, A = some ad → ∀ r ∈ rows, r.b ≠ ad.block) : OwnZ w base e z A n c f := by
 obtain ⟨h1, h2⟩ := h
 refine ⟨h1, ?_⟩
 rcases h2 with h2 | ⟨g, cap, cur, hv, hg, hh, r⟩
 ·exact .inl h2
 ·refine .inr ⟨g, cap, cur, hv, hg, ?_, r⟩
  have hA : A = some ⟨g, 0, none⟩ := by injection hv
  rw [hs.block g (Array.getElem?_eq_some_iff.1 hh).1 (fun r hr => hne _ hA r hr)]
  exact hh
/-- What a Hash's cells hold. -/
def hashF (A : Option Addr) (n c : Nat) : Nat → Value := fun i => if i = 0 then .slice A n c else .int .i64 0
/-- At g lies a Hash that has gathered n chunks that read as x. -/
def HashIs (w : World) (base g n : Nat) (x : Nat → Nat) : Prop := ∃ A c, w.rowIs g 90 2 (hashF A n c) ∧ OwnZ w base 24 32 A n c (u8v x) ∧ (∀ ad, A = some ad → ad.block ≠ g)
theorem wp_ex {P : Program} {o : Oper} {a : Act} {w : World} {K : Act → World → Prop} {Q : Exit → Act → World → Prop} (v : Value) (h : (execOp a.eval o).run P w = .ok (.value v) w) (hK : K (a.put o.dst v) w) : o.wp P a w K Q := by
 unfold Oper.wp
 rw [h]
 exact hK
theorem cat_h {n : Nat} {x r : Nat → Nat} : ∀ i, i < (n + 1) * 32 → catF (n * 32) (u8v x) (u8v r) i = u8v (catN (n * 32) x r) i := fun i _ => by
 simp only [catF, u8v, catN]; split <;> rfl
theorem ld_sl (a : Addr) (v : Value) (w : World) (h : w.cell? a = some v) : (Instr.loadAt 32 (.pointer (some a))).run Tryd.prog w = .ok v w := by
 simp [go_sem, h]
theorem ex_ldsl {o : Oper} {a : Act} {x : Operand} {ad : Addr} {v : Value} {w : World} (ho : o.op = .load 32 x) (hx : a.eval x = .pointer (some ad)) (h : (Instr.loadAt 32 (.pointer (some ad))).run Tryd.prog w = .ok v w) : (execOp a.eval o).run Tryd.prog w = .ok (.value v) w := by
 unfold execOp
 rw [ho]
 simp only [hx]
 simp [h]
theorem ex_ldroot {o : Oper} {a : Act} {x : Operand} {b : Nat} {r : Nat → Nat} (ho : o.op = .load 24 x) (hx : a.eval x = .pointer (some ⟨b, 0, none⟩)) (w : World) (h : w.rowIs b 24 32 (u8v r)) : (execOp a.eval o).run Tryd.prog w = .ok (.value (rootV r)) w := by
 have h2 := run_loadAt_rd (P := Tryd.prog) w ⟨b, 0, none⟩ 32 24 _ (u8v r) (fun i hi => by rw [add_lit0]; exact h.cell hi) Tryd.underlying24 rfl (by kernel_rfl)
 unfold execOp
 rw [ho]
 simp only [hx]
 simp [h2]
theorem ord_two {P : Program} {ops : Array Oper} {Q : Exit → Act → World → Prop} {md : Region.Mode} {i j fuel : Nat} {o o' : Oper} {listed : Array Bool} {a : Act} {w : World} (hi : ops.toList[i]? = some o) (hj : ops.toList[j]? = some o') (hr : Region.ready md ops listed = [i, j]) (hg : o.guard = none) (hg' : o'.guard = none)
  (h : ∀ K : Act → World → Prop, (∀ a w, wpAny P md ops Q fuel (listed.setIfInBounds i true) a w → K a w) → o.wp P a w K Q)
  (h' : ∀ K : Act → World → Prop, (∀ a w, wpAny P md ops Q fuel (listed.setIfInBounds j true) a w → K a w) → o'.wp P a w K Q) : wpAny P md ops Q (fuel + 1) listed a w :=
 wpAny_ready (rs := [i, j]) hr (by simp) (AllReady.cons (by rw [← Array.getElem?_toList]; exact hi) (fun K hK => by rw [if_pos (by simp [Region.wanted, hg])]; exact h K hK) (AllReady.cons (by rw [← Array.getElem?_toList]; exact hj) (fun K hK => by rw [if_pos (by simp [Region.wanted, hg'])]; exact h' K hK) AllReady.nil))
theorem st_sl (a : Addr) (A : Option Addr) (n c : Nat) (v : Value) (w : World) (h : w.cell? a = some v) (hf : w.frozen? a = false) : (Instr.storeAt 32 (.pointer (some a)) (.slice A n c)).run Tryd.prog w = .ok () (w.setCell a (.slice A n c)) := by
 simp [go_sem, h, hf]
set_option maxHeartbeats 4000000 in
theorem put_look (B base g n : Nat) (x r : Nat → Nat) (w : World) (hH : HashIs w base g n x) (hBb : B ≤ base) (hBg : B ≤ g) (hbw : base ≤ w.heap.size) (hn : n ≤ 1099511627776) :
  Calls Tryd.prog 53 #[.pointer (some ⟨g, 0, none⟩), rootV r, .int .i64 0] w fun e w' => e = .returned (.tuple #[]) ∧ HashIs w' base g (n + 1) (catN (n * 32) x r) ∧ Below B w w' := by
 obtain ⟨A, c, hr, ho, hne⟩ := hH
 have HO := Lib.hid ho
 have HNe := Lib.hid hne
 have hgl := hr.lt
 have hBw : B ≤ w.heap.size := Nat.le_trans hBb hbw
 have HS0 := Lib.hid ((HS.nil w).take hr (fun r hr => by cases hr))
 clear hr ho hne
 go_enter Tryd.func53, Tryd.ntmps53
 go_wp2_with (first
  | (refine wpList_boxL rfl 24 _ 4 rfl rfl HS0.out 32 (u8v r) rfl ?_; intro b4 w4 hb4 hc4 hs4; have c1 : w4.cell? ⟨g, 1, none⟩ = some (.int .i64 0) := hs4.cell 1 1 rfl (by show 1 < 2; omega); have f1 := hs4.frozen 1 1 rfl; have HS4 := Lib.hid hs4; clear hs4))
 have hs := (HS4.out.set 1 1 rfl (.int .i64 0)).congr 1 rfl (g := hashF A n c) (fun i hi => by
  by_cases e : i = 1
  ·subst e; rw [if_pos rfl]; rfl
  ·rw [if_neg e])
 refine HS.go hs (fun wa hs => ?_)
 have hA : HS w wa [⟨b4, 24, 32, u8v r⟩, ⟨g, 90, 2, hashF A n c⟩] := hs
 have HA := Lib.hid hA
 have hsz := hA.size
 have HOa := Lib.hid (HO.out.hs hA (fun ad e => by have := HNe.out ad e; have h2 := (HO.out.base_le ad e).2; simp; omega))
 have HWa := Lib.hid (hA.old hBw (by simp; omega))
 clear hs hA HS0 HS4
 refine ord_enter (n := 11) (by kernel_rfl) (by kernel_rfl) ?_
 have HA2 := Lib.hid HA.out.drew
 have HOa2 : Hid (OwnZ wa.drew base 24 32 A n c (u8v x)) := Lib.hid HOa.out
 have HWa2 : Hid (Below B w wa.drew) := Lib.hid ⟨HWa.out.os, HWa.out.tape, HWa.out.output, HWa.out.size, HWa.out.block⟩
 have hsz2 : w.heap.size ≤ wa.drew.heap.size := hsz
 clear HA HOa HWa hsz
 have HA := HA2
 have HOa := HOa2
 have HWa := HWa2
 have hsz := hsz2
 clear HA2 HOa2 HWa2 hsz2
 generalize wa.drew = wv at HA HOa HWa hsz ⊢
 refine ord_take (i := 0) (.pointer (some ⟨g, 0, none⟩)) rfl (by kernel_rfl) (by kernel_rfl) (by kernel_rfl) rfl (fun _ _ _ h => h) (ex_move (.inl rfl) rfl) ?_
 refine ord_take (i := 1) (.pointer (some ⟨g, 0, none⟩)) rfl (by kernel_rfl) (by kernel_rfl) (by kernel_rfl) rfl (fun _ _ _ h => h) (ex_move (.inl rfl) rfl) ?_
 refine ord_take (i := 2) (.pointer (some ⟨g, 0, none⟩)) rfl (by kernel_rfl) (by kernel_rfl) (by kernel_rfl) rfl (fun _ _ _ h => h) (ex_nil rfl rfl) ?_
 refine ord_take (i := 3) (.pointer (some ⟨g, 0, none⟩)) rfl (by kernel_rfl) (by kernel_rfl) (by kernel_rfl) rfl (fun _ _ _ h => h) (ex_fld rfl rfl (fun w => by simp [go_sem])) ?_
 simp only [pcX]
 refine ord_two (i := 4) (j := 5) rfl rfl (by kernel_rfl) rfl rfl (fun K hK => ?_) (fun K hK => ?_)
 ·refine wp_ex (.slice A n c) (ex_ldsl rfl rfl (ld_sl _ _ wv ((HA.out.row 1 rfl).cell (i := 0) (by show 0 < 2; omega)))) ?_
  refine hK _ _ ?_
  clear hK
  simp only [pcX]
  refine ord_step (i := 5) rfl (by kernel_rfl) rfl (fun K hK => ?_)
  refine wp_ex (rootV r) (ex_ldroot (r := r) rfl rfl wv (HA.out.row 0 rfl)) ?_
  refine hK _ _ ?_
  clear hK
  simp only [pcX]
  refine ord_step (i := 6) rfl (by kernel_rfl) rfl (fun K hK => ?_)
  refine wp_bs1L Tryd.underlying32 (z := 32) (by kernel_rfl) (by omega) (by omega) (v0 := .agg (Array.replicate 32 (.int .u8 0))) (by kernel_rfl) _ rfl (u8v r) rfl (HS.nil wv) ?_
  intro b21 wl hb21 _ hl
  have HL := Lib.hid hl
  clear hl
  refine hK _ _ ?_
  clear hK
  simp only [pcX]
  have hwl := HL.out
  have hb := hwl.out (by simp; omega)
  have ho' := HOa.out.all hb
  have hr21 := Rd.of_row (hwl.row 0 rfl) (Nat.le_refl _) (hwl.lt 0 rfl)
  have hbw' : base ≤ wl.heap.size := Nat.le_trans hbw (Nat.le_trans hsz hb.size)
  have hwb := HWa.out.trans (hb.mono (Nat.le_trans hBw hsz))
  have hrg : wl.rowIs g 90 2 (hashF A n c) := row_below (HA.out.row 1 rfl) hb (HA.out.row 1 rfl).lt
  refine ord_step (i := 7) rfl (by kernel_rfl) rfl (fun K hK => ?_)
  refine wp_appZ wl (.tmp 19) (.tmp 21) 32 base (z := .agg (Array.replicate 32 (.int .u8 0))) (k := 32) (bytes := 32) (by kernel_rfl) Tryd.underlying32 (by rfl) (by omega) rfl (n + 1) (u8v (catN (n * 32) x r)) rfl rfl ho' hr21 (fun _ _ => rfl) rfl cat_h ⟨by omega, by omega⟩ hbw' ?_
  intro A22 c22 w22 ho22 hg22 ha22
  have hrg2 := hrg.of_block (hg22.block g hrg.lt (fun e => by
   cases A with
   | none => cases e
   | some ad => injection e with e; exact HNe.out ad rfl e.symm))
  have hw22 := below_app hwb hg22 (Nat.le_trans hBb hbw') (fun ad e => Nat.le_trans hBb (HO.out.base_le ad e).1)
  have hne22 : ∀ ad, A22 = some ad → ad.block ≠ g := fun ad e => by
   rcases ha22 ad e with h | h
   ·cases A with
    | none => cases h
    | some ad' => injection h with h; rw [h]; exact HNe.out ad' rfl
   ·have := hrg.lt; omega
  have HO22 := Lib.hid ho22
  clear ho' hbw' hwb hrg hg22 ha22 ho22 hb hr21 hwl
  refine hK _ _ ?_
  clear hK
  simp only [pcX]
  refine ord_step (i := 8) rfl (by kernel_rfl) rfl (fun K hK => ?_)
  refine wp_ex (.pointer (some ⟨g, 0, none⟩)) (ex_nil rfl rfl _) ?_
  refine hK _ _ ?_
  clear hK
  simp only [pcX]
  refine ord_step (i := 9) rfl (by kernel_rfl) rfl (fun K hK => ?_)
  refine wp_ex (.pointer (some ⟨g, 0, none⟩)) (ex_fld rfl rfl (fun w => by simp [go_sem]) _) ?_
  refine hK _ _ ?_
  clear hK
  simp only [pcX]
  refine ord_step (i := 10) rfl (by kernel_rfl) rfl (fun K hK => ?_)
  refine wp_store rfl rfl (v := .slice A22 (n + 1) c22) rfl rfl (st_sl ⟨g, 0, none⟩ A22 (n + 1) c22 _ w22 (hrg2.cell (i := 0) (by show 0 < 2; omega)) (hrg2.frozen 0)) ?_
  refine hK _ _ (wpAny_done (by kernel_rfl) ?_ _)
  clear hK
  have hg := grown_setCell (World.grownBy.refl w22 (some g)) (.inl rfl) (.slice A22 (n + 1) c22) (p := ⟨g, 0, none⟩)
  have hr3 := (hrg2.set 0 (.slice A22 (n + 1) c22)).congr (g := hashF A22 (n + 1) c22) (fun i hi => by
   by_cases e : i = 0
   ·subst e; rfl
   ·show (if i = 0 then _ else hashF A n c i) = hashF A22 (n + 1) c22 i
    rw [if_neg e]; unfold hashF; rw [if_neg e, if_neg e])
  have ho3 := HO22.out.kept hg (fun ad e h => by injection h with h; exact hne22 ad e h)
  have hw3 := hw22.grown hg (Nat.le_trans hBw hw22.size) (fun k hk => by injection hk with hk; omega)
  go_wp2_with fail
  go_end0
  exact ⟨rfl, ⟨A22, c22, hr3, ho3, hne22⟩, hw3⟩
 ·refine wp_ex (rootV r) (ex_ldroot (r := r) rfl rfl wv (HA.out.row 0 rfl)) ?_
  refine hK _ _ ?_
  clear hK
  simp only [pcX]
  refine ord_two (i := 4) (j := 6) rfl rfl (by kernel_rfl) rfl rfl (fun K hK => ?_) (fun K hK => ?_)
  ·refine wp_ex (.slice A n c) (ex_ldsl rfl rfl (ld_sl _ _ wv ((HA.out.row 1 rfl).cell (i := 0) (by show 0 < 2; omega)))) ?_
   refine hK _ _ ?_
   clear hK
   simp only [pcX]
   refine ord_step (i := 6) rfl (by kernel_rfl) rfl (fun K hK => ?_)
   refine wp_bs1L Tryd.underlying32 (z := 32) (by kernel_rfl) (by omega) (by omega) (v0 := .agg (Array.replicate 32 (.int .u8 0))) (by kernel_rfl) _ rfl (u8v r) rfl (HS.nil wv) ?_
   intro b21 wl hb21 _ hl
   have HL := Lib.hid hl
   clear hl
   refine hK _ _ ?_
   clear hK
   simp only [pcX]
   have hwl := HL.out
   have hb := hwl.out (by simp; omega)
   have ho' := HOa.out.all hb
   have hr21 := Rd.of_row (hwl.row 0 rfl) (Nat.le_refl _) (hwl.lt 0 rfl)
   have hbw' : base ≤ wl.heap.size := Nat.le_trans hbw (Nat.le_trans hsz hb.size)
   have hwb := HWa.out.trans (hb.mono (Nat.le_trans hBw hsz))
   have hrg : wl.rowIs g 90 2 (hashF A n c) := row_below (HA.out.row 1 rfl) hb (HA.out.row 1 rfl).lt
   refine ord_step (i := 7) rfl (by kernel_rfl) rfl (fun K hK => ?_)
   refine wp_appZ wl (.tmp 19) (.tmp 21) 32 base (z := .agg (Array.replicate 32 (.int .u8 0))) (k := 32) (bytes := 32) (by kernel_rfl) Tryd.underlying32 (by rfl) (by omega) rfl (n + 1) (u8v (catN (n * 32) x r)) rfl rfl ho' hr21 (fun _ _ => rfl) rfl cat_h ⟨by omega, by omega⟩ hbw' ?_
   intro A22 c22 w22 ho22 hg22 ha22
   have hrg2 := hrg.of_block (hg22.block g hrg.lt (fun e => by
    cases A with
    | none => cases e
    | some ad => injection e with e; exact HNe.out ad rfl e.symm))
   have hw22 := below_app hwb hg22 (Nat.le_trans hBb hbw') (fun ad e => Nat.le_trans hBb (HO.out.base_le ad e).1)
   have hne22 : ∀ ad, A22 = some ad → ad.block ≠ g := fun ad e => by
    rcases ha22 ad e with h | h
    ·cases A with
     | none => cases h
     | some ad' => injection h with h; rw [h]; exact HNe.out ad' rfl
    ·have := hrg.lt; omega
   have HO22 := Lib.hid ho22
   clear ho' hbw' hwb hrg hg22 ha22 ho22 hb hr21 hwl
   refine hK _ _ ?_
   clear hK
   simp only [pcX]
   refine ord_step (i := 8) rfl (by kernel_rfl) rfl (fun K hK => ?_)
   refine wp_ex (.pointer (some ⟨g, 0, none⟩)) (ex_nil rfl rfl _) ?_
   refine hK _ _ ?_
   clear hK
   simp only [pcX]
   refine ord_step (i := 9) rfl (by kernel_rfl) rfl (fun K hK => ?_)
   refine wp_ex (.pointer (some ⟨g, 0, none⟩)) (ex_fld rfl rfl (fun w => by simp [go_sem]) _) ?_
   refine hK _ _ ?_
   clear hK
   simp only [pcX]
   refine ord_step (i := 10) rfl (by kernel_rfl) rfl (fun K hK => ?_)
   refine wp_store rfl rfl (v := .slice A22 (n + 1) c22) rfl rfl (st_sl ⟨g, 0, none⟩ A22 (n + 1) c22 _ w22 (hrg2.cell (i := 0) (by show 0 < 2; omega)) (hrg2.frozen 0)) ?_
   refine hK _ _ (wpAny_done (by kernel_rfl) ?_ _)
   clear hK
   have hg := grown_setCell (World.grownBy.refl w22 (some g)) (.inl rfl) (.slice A22 (n + 1) c22) (p := ⟨g, 0, none⟩)
   have hr3 := (hrg2.set 0 (.slice A22 (n + 1) c22)).congr (g := hashF A22 (n + 1) c22) (fun i hi => by
    by_cases e : i = 0
    ·subst e; rfl
    ·show (if i = 0 then _ else hashF A n c i) = hashF A22 (n + 1) c22 i
     rw [if_neg e]; unfold hashF; rw [if_neg e, if_neg e])
   have ho3 := HO22.out.kept hg (fun ad e h => by injection h with h; exact hne22 ad e h)
   have hw3 := hw22.grown hg (Nat.le_trans hBw hw22.size) (fun k hk => by injection hk with hk; omega)
   go_wp2_with fail
   go_end0
   exact ⟨rfl, ⟨A22, c22, hr3, ho3, hne22⟩, hw3⟩
  ·refine wp_bs1L Tryd.underlying32 (z := 32) (by kernel_rfl) (by omega) (by omega) (v0 := .agg (Array.replicate 32 (.int .u8 0))) (by kernel_rfl) _ rfl (u8v r) rfl (HS.nil wv) ?_
   intro b21 wl hb21 _ hl
   have HL := Lib.hid hl
   clear hl
   refine hK _ _ ?_
   clear hK
   simp only [pcX]
   refine ord_step (i := 4) rfl (by kernel_rfl) rfl (fun K hK => ?_)
   refine wp_ex (.slice A n c) (ex_ldsl rfl rfl (ld_sl _ _ wl ((row_below (HA.out.row 1 rfl) (HL.out.out (by simp; omega)) (HA.out.row 1 rfl).lt).cell (i := 0) (by show 0 < 2; omega)))) ?_
   refine hK _ _ ?_
   clear hK
   simp only [pcX]
   have hwl := HL.out
   have hb := hwl.out (by simp; omega)
   have ho' := HOa.out.all hb
   have hr21 := Rd.of_row (hwl.row 0 rfl) (Nat.le_refl _) (hwl.lt 0 rfl)
   have hbw' : base ≤ wl.heap.size := Nat.le_trans hbw (Nat.le_trans hsz hb.size)
   have hwb := HWa.out.trans (hb.mono (Nat.le_trans hBw hsz))
   have hrg : wl.rowIs g 90 2 (hashF A n c) := row_below (HA.out.row 1 rfl) hb (HA.out.row 1 rfl).lt
   refine ord_step (i := 7) rfl (by kernel_rfl) rfl (fun K hK => ?_)
   refine wp_appZ wl (.tmp 19) (.tmp 21) 32 base (z := .agg (Array.replicate 32 (.int .u8 0))) (k := 32) (bytes := 32) (by kernel_rfl) Tryd.underlying32 (by rfl) (by omega) rfl (n + 1) (u8v (catN (n * 32) x r)) rfl rfl ho' hr21 (fun _ _ => rfl) rfl cat_h ⟨by omega, by omega⟩ hbw' ?_
   intro A22 c22 w22 ho22 hg22 ha22
   have hrg2 := hrg.of_block (hg22.block g hrg.lt (fun e => by
    cases A with
    | none => cases e
    | some ad => injection e with e; exact HNe.out ad rfl e.symm))
   have hw22 := below_app hwb hg22 (Nat.le_trans hBb hbw') (fun ad e => Nat.le_trans hBb (HO.out.base_le ad e).1)
   have hne22 : ∀ ad, A22 = some ad → ad.block ≠ g := fun ad e => by
    rcases ha22 ad e with h | h
    ·cases A with
     | none => cases h
     | some ad' => injection h with h; rw [h]; exact HNe.out ad' rfl
    ·have := hrg.lt; omega
   have HO22 := Lib.hid ho22
   clear ho' hbw' hwb hrg hg22 ha22 ho22 hb hr21 hwl
   refine hK _ _ ?_
   clear hK
   simp only [pcX]
   refine ord_step (i := 8) rfl (by kernel_rfl) rfl (fun K hK => ?_)
   refine wp_ex (.pointer (some ⟨g, 0, none⟩)) (ex_nil rfl rfl _) ?_
   refine hK _ _ ?_
   clear hK
   simp only [pcX]
   refine ord_step (i := 9) rfl (by kernel_rfl) rfl (fun K hK => ?_)
   refine wp_ex (.pointer (some ⟨g, 0, none⟩)) (ex_fld rfl rfl (fun w => by simp [go_sem]) _) ?_
   refine hK _ _ ?_
   clear hK
   simp only [pcX]
   refine ord_step (i := 10) rfl (by kernel_rfl) rfl (fun K hK => ?_)
   refine wp_store rfl rfl (v := .slice A22 (n + 1) c22) rfl rfl (st_sl ⟨g, 0, none⟩ A22 (n + 1) c22 _ w22 (hrg2.cell (i := 0) (by show 0 < 2; omega)) (hrg2.frozen 0)) ?_
   refine hK _ _ (wpAny_done (by kernel_rfl) ?_ _)
   clear hK
   have hg := grown_setCell (World.grownBy.refl w22 (some g)) (.inl rfl) (.slice A22 (n + 1) c22) (p := ⟨g, 0, none⟩)
   have hr3 := (hrg2.set 0 (.slice A22 (n + 1) c22)).congr (g := hashF A22 (n + 1) c22) (fun i hi => by
    by_cases e : i = 0
    ·subst e; rfl
    ·show (if i = 0 then _ else hashF A n c i) = hashF A22 (n + 1) c22 i
     rw [if_neg e]; unfold hashF; rw [if_neg e, if_neg e])
   have ho3 := HO22.out.kept hg (fun ad e h => by injection h with h; exact hne22 ad e h)
   have hw3 := hw22.grown hg (Nat.le_trans hBw hw22.size) (fun k hk => by injection hk with hk; omega)
   go_wp2_with fail
   go_end0
   exact ⟨rfl, ⟨A22, c22, hr3, ho3, hne22⟩, hw3⟩
end Go.Proofs.YtomilckcgmhfcaaDoor
