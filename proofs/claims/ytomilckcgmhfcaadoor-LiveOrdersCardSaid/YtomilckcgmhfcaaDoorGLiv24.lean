/- A part of what the proofs stand on: LiveFold, Stage. -/
import Derived.Test.YtomilckcgmhfcaaDoorGLiv1
import Derived.Test.YtomilckcgmhfcaaDoorGLiv23
import Derived.Test.YtomilckcgmhfcaaDoorGLiv19
import Derived.Test.YtomilckcgmhfcaaDoorGLiv10
import Derived.Test.YtomilckcgmhfcaaDoorGLiv4
/- What region 20 of a live state's Root needs: a staged invariant, an array of 32 roots. -/
namespace Go.Proofs.YtomilckcgmhfcaaDoor
set_option maxRecDepth 40000
open Go.RowKit
/-- A list of roots as bytes. -/
theorem b8_root {n : Nat} {f : Nat → Value} (h : ∀ i, i < n → Sc (fun q => f (i * 32 + q)) 24) {i : Nat} (hi : i < n * 32) : f i = u8v (b8 f) i := by
 have h1 := (h (i / 32) (by omega)).u8 (i % 32) (by
  have h2 : (List.range 32).all (fun q => leafAt Tryd.prog 8 24 q == some 5) = true := by kernel_rfl
  exact eq_of_beq (List.all_eq_true.1 h2 _ (List.mem_range.2 (Nat.mod_lt _ (by omega)))))
 have e : i / 32 * 32 + i % 32 = i := by omega
 simp only [e] at h1
 exact b8_at h1
/-- Bytes of a state. -/
theorem st_bytes {F : Nat → Value} (hF : Sc F 49) (o n : Nat) (h : (List.range n).all (fun q => leafAt Tryd.prog 8 49 (o + q) == some 5) = true) : ∀ i, i < n → F (o + i) = u8v (byF F o) i := fun i hi =>
 byF_eq hF o i (eq_of_beq (List.all_eq_true.1 h i (List.mem_range.2 hi)))
theorem st_words {F : Nat → Value} (hF : Sc F 49) (o n : Nat) (h : (List.range n).all (fun q => leafAt Tryd.prog 8 49 (o + q) == some 22) = true) : ∀ i, i < n → F (o + i) = u64v (fun q => nat (at_ F o q)) i := fun i hi =>
 (hF.u64 (o + i) (eq_of_beq (List.all_eq_true.1 h i (List.mem_range.2 hi)))).1
/-- Two chunks and their root. -/
theorem two_tree (X : Nat → Nat) : shaB (catN 32 (fun q => X (0 * 32 + q)) (fun q => X (1 * 32 + q))) 64 = treeN (dep 2) 2 X := by
 rw [show dep 2 = 1 by decide]
 have e : (fun q => X (0 * 32 + q)) = X := by funext q; rw [Nat.zero_mul, Nat.zero_add]
 rw [e]
 rfl
/-- The array of roots, built. -/
theorem built_arr (parts : List (Nat × Value)) : Tryd.prog.built 88 parts = Instr.fill (fun i => some (i * 32, 32)) (Array.replicate 1024 (.int .u8 0)) parts := by kernel_rfl
theorem fill_roots (C : Nat → Nat → Nat) : ∀ (c m : Nat) (g : Nat → Value), (m + c) * 32 ≤ 1024 →
  Instr.fill (fun i => some (i * 32, 32)) (arr 1024 g) ((List.range' m c).map fun k => (k, rootV (C k))) = some (arr 1024 fun q => if m * 32 ≤ q ∧ q < (m + c) * 32 then u8v (C (q / 32)) (q % 32) else g q)
 | 0, m, g, _ => by
  rw [show (List.range' m 0) = [] from rfl, List.map_nil]
  unfold Instr.fill
  refine congrArg some (arr_congr fun q _ => ?_)
  rw [if_neg (by omega)]
 | c + 1, m, g, h => by
  rw [List.range'_succ, List.map_cons, fill_part (place := fun i => some (i * 32, 32)) (i := m) rfl (by omega), fill_roots C c (m + 1) _ (by omega)]
  refine congrArg some (arr_congr fun q _ => ?_)
  by_cases h1 : m * 32 ≤ q ∧ q < m * 32 + 32
  ·rw [if_neg (by omega), if_pos h1, if_pos (by omega)]
   rw [show q / 32 = m by omega, show q % 32 = q - m * 32 by omega]
  ·rw [if_neg h1]
   by_cases h2 : (m + 1) * 32 ≤ q ∧ q < (m + 1 + c) * 32
   ·rw [if_pos h2, if_pos (by omega)]
   ·rw [if_neg h2, if_neg (by omega)]
theorem built_st (s : StV) : Tryd.prog.built 88 ((List.range' 0 24).map fun k => (k, rootV (stC s k))) = some (arr 1024 (u8v (stX s))) := by
 rw [built_arr, show (Array.replicate 1024 (Value.int .u8 0)) = arr 1024 (u8v fun _ => 0) from arr_of _ 1024 _ (by simp) (fun i hi => zero_at 1024 (.int .u8 0) i hi), fill_roots (stC s) 24 0 _ (by omega)]
 refine congrArg some (arr_congr fun q _ => ?_)
 by_cases h : 0 * 32 ≤ q ∧ q < (0 + 24) * 32
 ·rw [if_pos h]; rfl
 ·rw [if_neg h, ← stX_pad]
  simp only [u8v, padN]
  rw [if_neg (by omega)]
theorem run_idx32 (w : World) (b k : Nat) (hk : k < 32) : (Instr.indexAt 88 (.pointer (some ⟨b, 0, none⟩)) (.int .i64 (k : Int))).run Tryd.prog w = .ok (.pointer (some ⟨b, k * 32, none⟩)) w := by
 have hx : (k : Int) < 32 := by omega
 simp [go_sem, hx]
/-- The blocks of a tree are of other types. -/
theorem tm_row {w : World} {base T b : Nat} {v : TV} (h : TM w base T v) (hb : v.own T b) : ∃ t m g, w.rowIs b t m g ∧ t ≠ 88 := by
 obtain ⟨r, hr⟩ := hb
 match r, hr with
 | 0, hr => rw [show b = T from hr]; exact ⟨_, _, _, h.row, by decide⟩
 | 1, hr => rw [show b = v.lb from hr]; obtain ⟨F, hF, _⟩ := h.lrow; exact ⟨_, _, F, hF, by decide⟩
 | 2, hr => obtain ⟨m, g, k⟩ := own_on h.dr hr; exact ⟨_, m, g, k, by decide⟩
 | k + 3, hr => obtain ⟨m, g, k⟩ := own_on (h.lv k hr.1) hr.2; exact ⟨_, m, g, k, by decide⟩
theorem lm_row {w : World} {base L b : Nat} {s : StV} {T : Nat → Nat} {v : Nat → TV} (h : LM w base L s T v) (hb : LOwn L s T v b) : ∃ t m g, w.rowIs b t m g ∧ t ≠ 88 := by
 obtain ⟨r, hr⟩ := hb
 match r, hr with
 | 0, hr => rw [show b = L from hr]; exact ⟨_, _, _, h.row, by decide⟩
 | 1, hr => obtain ⟨m, g, k⟩ := own_on h.own.H hr; exact ⟨_, m, g, k, by decide⟩
 | 2, hr => obtain ⟨m, g, k⟩ := own_on h.own.E hr; exact ⟨_, m, g, k, by decide⟩
 | 3, hr => obtain ⟨m, g, k⟩ := own_on h.own.V hr; exact ⟨_, m, g, k, by decide⟩
 | 4, hr => obtain ⟨m, g, k⟩ := own_on h.own.B hr; exact ⟨_, m, g, k, by decide⟩
 | 5, hr => obtain ⟨m, g, k⟩ := own_on h.own.P hr; exact ⟨_, m, g, k, by decide⟩
 | 6, hr => obtain ⟨m, g, k⟩ := own_on h.own.C hr; exact ⟨_, m, g, k, by decide⟩
 | 7, hr => obtain ⟨m, g, k⟩ := own_on h.own.S hr; exact ⟨_, m, g, k, by decide⟩
 | j + 8, hr => exact tm_row (h.tm j hr.1) hr.2
theorem row_type {w : World} {b n m : Nat} {t u : TypeId} {f g : Nat → Value} (h : w.rowIs b t n f) (k : w.rowIs b u m g) : t = u := by
 obtain ⟨c, h1, _⟩ := h
 obtain ⟨d, h2, _⟩ := k
 rw [h1] at h2
 injection h2 with h2
 injection h2
theorem lm_row_ne {w : World} {base L b n : Nat} {s : StV} {T : Nat → Nat} {v : Nat → TV} {f : Nat → Value} (h : LM w base L s T v) (hr : w.rowIs b 88 n f) : ¬ LOwn L s T v b := fun hb => by
 obtain ⟨t, m, g, k, hn⟩ := lm_row h hb
 exact hn (row_type k hr)
/-- Rows of that type stay. -/
def RKeep (w w' : World) : Prop := ∀ b n f, w.rowIs b 88 n f → w'.rowIs b 88 n f
/-- The stages of region 20. -/
structure RJ (base L h : Nat) (s : StV) (T : Nat → Nat) (v : Nat → TV) (w0 : World) (k : Nat) (w : World) : Prop where
 ex : ∃ u, LV w base L s T u (h + k * 70000) ∧ LStep w0 w L s T v s T u ∧ ∀ j, j < 5 → (u j).zA = (v j).zA
section
variable {base L h k : Nat} {s : StV} {T : Nat → Nat} {v : Nat → TV} {w0 w w' : World}
theorem RJ.below (hj : RJ base L h s T v w0 k w) (hb : Below w.heap.size w w') : RJ base L h s T v w0 k w' := by
 obtain ⟨u, h1, h2, h3⟩ := hj.ex
 exact ⟨u, h1.below hb, h2.trans (LStep.refl hb), h3⟩
theorem RJ.cell (hj : RJ base L h s T v w0 k w) (hb : Below w.heap.size w w') (i : Nat) (hi : i < 1957) : w'.cell? ⟨L, i, none⟩ = some (s.F i) := by
 obtain ⟨u, h1, _⟩ := hj.ex
 exact (h1.lm.below hb).cell i hi
theorem RJ.ptr (hj : RJ base L h s T v w0 k w) (hb : Below w.heap.size w w') (i : Nat) (hi : i < 5) : w'.cell? ⟨L, 1957 + i, none⟩ = some (tpV (T i)) := by
 obtain ⟨u, h1, _⟩ := hj.ex
 exact (h1.lm.below hb).ptr i hi
theorem RJ.low (hj : RJ base L h s T v w0 k w) (hm : LM w0 base L s T v) (hb : Below w.heap.size w w') : Below base w0 w' := by
 obtain ⟨u, h1, h2, _⟩ := hj.ex
 exact (h2.below hm (Nat.le_refl _)).trans (hb.mono h1.lm.bw)
theorem RJ.row (hj : RJ base L h s T v w0 k w) (hb : Below w.heap.size w w') {b n : Nat} {t : TypeId} {f : Nat → Value} (hr : w0.rowIs b t n f) (hn : ¬ LOwn L s T v b) : w'.rowIs b t n f := by
 obtain ⟨u, _, h2, _⟩ := hj.ex
 have h3 := h2.chg.row hr hn
 exact row_below h3 hb h3.lt
theorem lvC_ll {n : Nat} (hn : n ≤ 65536) : ∀ j, j < 5 → lvC j n ≤ 65536 ∧ dep (lvL j) ≤ 16 := five
 ⟨by unfold lvC lvG; simp; omega, dep_le (by decide)⟩ ⟨by unfold lvC lvG; simp; omega, dep_le (by decide)⟩ ⟨by unfold lvC lvG; simp; omega, dep_le (by decide)⟩ ⟨by unfold lvC lvG; simp; omega, dep_le (by decide)⟩ ⟨by unfold lvC lvG; simp; omega, dep_le (by decide)⟩
theorem RJ.list (hj : RJ base L h s T v w0 k w) (hm : LM w0 base L s T v) (j : Nat) (hj5 : j < 5) (hk : k < 5) (hh : h ≤ 576460752303423488) (hp : ShaPkg w0) (hpB : 0 < base ∧ 1 < base) (hpt : TzPkg w0) (htB : 2 < base) :
  Calls Tryd.prog 32 #[tpV (T j), .int .i64 (s.nV : Int)] w fun r w' => ∃ e, r = .returned e ∧ e = rootV (lmixN (treeN (dep (lvL j)) (lvC j s.nV) (lvX s j)) s.nV) ∧ RJ base L h s T v w0 (k + 1) w' ∧ RKeep w w' := by
 have hlow := hj.low hm (Below.refl _ _)
 obtain ⟨u, h1, h2, h3⟩ := hj.ex
 have hn := h1.right.n
 obtain ⟨hl, hd⟩ := lvC_ll hn j hj5
 have hHj := h1.H j hj5
 have hDj := h1.D j hj5
 refine (list_look (u j) base (T j) (lvC j s.nV) s.nV (lvX s j) w (h1.lm.tm j hj5) (h1.st j hj5) (lvX_lt s j) (by omega) (by omega) (hp.base hpB hlow) hpB h1.lm.bw (hpt.below hlow htB)).mono ?_
 rintro r w' ⟨v', rfl, m1, m2, m3, m4⟩
 obtain ⟨m5, m6⟩ := h1.lm.tree hj5 m1 m2
 refine ⟨_, rfl, by rw [hDj], ⟨updX u j v', ⟨m5, fun i hi => ?_, fun i hi => ?_, fun i hi => ?_, fun i hi => ?_, h1.right⟩, h2.trans m6, fun i hi => ?_⟩, fun b n f hr => m2.chg.row hr fun ho => ?_⟩
 ·unfold updX; split
  ·rename_i e; subst e; exact m3
  ·exact h1.st i hi
 ·unfold updX; split
  ·rename_i e; subst e; rw [m2.lim]; exact h1.lim i hi
  ·exact h1.lim i hi
 ·unfold updX; split
  ·rename_i e; subst e; rw [m2.D]; exact h1.D i hi
  ·exact h1.D i hi
 ·have h9 := h1.H i hi
  clear hh hp hpB hpt htB hlow
  unfold updX; split
  ·rename_i e; subst e
   rw [hDj] at m4
   have h8 := m4
   clear m1 m2 m3 m4 m5 m6 h1 h2 h3
   rw [Nat.add_mul]; omega
  ·exact Nat.le_trans h9 (Nat.add_le_add_left (Nat.mul_le_mul_right _ (Nat.le_succ k)) h)
 ·unfold updX; split
  ·rename_i e; subst e; rw [m2.zA]; exact h3 i hi
  ·exact h3 i hi
 ·obtain ⟨t, m, g, k1, hne⟩ := tm_row (h1.lm.tm j hj5) ho
  exact hne (row_type k1 hr)
theorem leaf_out {P : Program} {f n : Nat} {t : TypeId} {fs : Array Field} (hu : P.underlying t = some (.struct fs)) (hall : fs.toList.all (fun x => decide (x.offset + P.cellsOf x.type ≤ n)) = true) : ∀ q, n ≤ q → leafAt P (f + 1) t q = none := fun q hq => by
 unfold leafAt
 rw [hu]
 simp only
 rw [List.find?_eq_none.2 (fun x hx => by
  have := of_decide_eq_true (List.all_eq_true.1 hall x hx)
  simp; omega)]
 rfl
theorem RJ.rd (hj : RJ base L h s T v w0 k w) (hb : Below w.heap.size w w') (o n : Nat) (f : Nat → Value) (ho : o + n ≤ 1957) (hf : ∀ i, i < n → s.F (o + i) = f i) : Rd w' w'.heap.size (some ⟨L, o, none⟩) n f := fun _ => by
 obtain ⟨u, h1, _⟩ := hj.ex
 refine ⟨⟨L, o, none⟩, rfl, (h1.lm.below hb).row.lt, fun i hi => ?_⟩
 rw [← hf i hi, ← hj.cell hb (o + i) (by omega)]
 unfold Addr.add
 split
 ·rename_i e; subst e; rfl
 ·rfl
/-- At the end: what was written to is new memory. -/
theorem RJ.done {S : Nat → Prop} {wA w2 : World} (hj : RJ base L h s T v w0 5 w) (hA : LM wA base L s T v) (hw : Below wA.heap.size wA w0) (hc : Chg S w w2) (hS : ∀ b, S b → wA.heap.size ≤ b ∧ (b < w0.heap.size ∨ ∃ n f, w.rowIs b 88 n f)) : ∃ u, LV w2 base L s T u (h + 400000) ∧ LStep wA w2 L s T v s T u := by
 obtain ⟨u, h1, h2, h3⟩ := hj.ex
 have hzz : ∀ b, LZer u b → LZer v b := fun b ⟨j, hj, hz⟩ => ⟨j, hj, by rw [← h3 j hj]; exact hz⟩
 refine ⟨u, ⟨h1.lm.chg hc fun b hb hs => ?_, h1.st, h1.lim, h1.D, fun j hj => ?_, h1.right⟩, ?_⟩
 ·obtain ⟨g1, g2⟩ := hS b hs
  rcases hb with hb | hb
  ·rcases g2 with g2 | ⟨n, f, g2⟩
   ·rcases h2.newO b hb with k1 | k1
    ·have := hA.lt k1; omega
    ·omega
   ·exact lm_row_ne h1.lm g2 hb
  ·have := hA.zlt (hzz b hb); omega
 ·have := h1.H j hj; omega
 ·have h4 := (LStep.refl (L := L) (s := s) (T := T) (v := v) hw).trans h2
  exact ⟨h4.chg.trans hc (fun b hb => .inr (hS b hb).1), h4.newO, h4.newZ⟩
end
section
variable {P : Program} {ops : Array Oper} {B : Nat} {w0 : World} {o : Oper} {lk : Tmp → SF}
/-- The parts of a built value. -/
def OpKs (lk : Tmp → SF) : List (Nat × Operand) → List (Nat × Value) → Prop
 | [], [] => True
 | (i, x) :: xs, (j, v) :: vs => i = j ∧ OpK lk x v ∧ OpKs lk xs vs
 | _, _ => False
theorem OpKs.nil : OpKs lk [] [] := trivial
theorem OpKs.cons {i : Nat} {x : Operand} {v : Value} {xs : List (Nat × Operand)} {vs : List (Nat × Value)} (h : OpK lk x v) (k : OpKs lk xs vs) : OpKs lk ((i, x) :: xs) ((i, v) :: vs) := ⟨rfl, h, k⟩
theorem OpKs.eval {a : Act} {w : World} : ∀ (xs : List (Nat × Operand)) (vs : List (Nat × Value)), OpKs lk xs vs → Opd lk o a w → (∀ p, p ∈ xs → p.2 ∈ o.op.operands) → xs.map (fun p => (p.1, a.eval p.2)) = vs
 | [], [], _, _, _ => rfl
 | [], _ :: _, h, _, _ => h.elim
 | _ :: _, [], h, _, _ => h.elim
 | (i, x) :: xs, (j, v) :: vs, h, hf, hm => by
  obtain ⟨rfl, h1, h2⟩ := h
  rw [List.map_cons, OpKs.eval xs vs h2 hf (fun p hp => hm p (List.mem_cons_of_mem _ hp)), h1.eval hf (hm (i, x) (List.mem_cons_self ..))]
theorem opOb_build {t : TypeId} {parts : Array (Nat × Operand)} {vs : List (Nat × Value)} {cs : Array Value} (hg : o.guard = none) (hop : o.op = .build t parts) (hx : OpKs lk parts.toList vs) (hb : P.built t vs = some cs) : opOb P ops B w0 o (SF.is (.agg cs)) lk :=
 opOb_val _ hg fun a w _ hf => TreeCopy.ex_build t parts hop vs (OpKs.eval parts.toList vs hx hf (fun p hp => by rw [hop]; simp [Op.operands]; exact ⟨p.1, Array.mem_def.2 hp⟩)) cs hb
end
theorem st_full (s : StV) : ∀ i, i < 32 → fullN 5 (stX s) i = stN s i := fun i hi => by
 have h := tree_full (dep 24) 24 (stX s) (dep_ge 24) i hi
 rw [stX_pad] at h
 have e : dep 24 = 5 := by decide
 unfold stN
 rw [h, e]
theorem HS.chg {w0 w : World} {rows : List RowSpec} (h : HS w0 w rows) : Chg (fun b => ∃ r, r ∈ rows ∧ r.b = b) w0 w := ⟨h.os, h.tape, h.output, h.size, fun k hk hn => h.block k hk (fun r hr e => hn ⟨r, hr, e⟩)⟩
theorem built_root (s : StV) (XH XE XB : Nat → Nat) (h7 : XH = treeN (dep 1024) s.nH (b8 s.His)) (h9 : XE = treeN (dep 8) s.nE (votX s.Vot)) (h17 : XB = bitsN s.F) : Tryd.prog.built 88 [(0, rootV (numN s.F 0)), (1, rootV (byF s.F 1)), (2, rootV (numN s.F 33)), (3, rootV (forkN (at_ s.F 34))), (4, rootV (headerN (at_ s.F 43))), (5, rootV (treeN (dep 8) 8 (byF s.F 141))), (6, rootV (treeN (dep 8) 8 (byF s.F 397))), (7, rootV (lmixN XH s.nH)), (8, rootV (eth1N (at_ s.F 654))), (9, rootV (lmixN XE s.nE)), (10, rootV (numN s.F 720)), (11, rootV (lmixN (treeN (dep (lvL 0)) (lvC 0 s.nV) (lvX s 0)) s.nV)), (12, rootV (lmixN (treeN (dep (lvL 1)) (lvC 1 s.nV) (lvX s 1)) s.nV)), (13, rootV (treeN (dep 8) 8 (byF s.F 723))), (14, rootV (shaB (catN 32 (fun q => numX 8 (at_ s.F 979) (0 * 32 + q)) (fun q => numX 8 (at_ s.F 979) (1 * 32 + q))) 64)), (15, rootV (lmixN (treeN (dep (lvL 2)) (lvC 2 s.nV) (lvX s 2)) s.nV)), (16, rootV (lmixN (treeN (dep (lvL 3)) (lvC 3 s.nV) (lvX s 3)) s.nV)), (17, rootV XB), (18, rootV (checkN (at_ s.F 993))), (19, rootV (checkN (at_ s.F 1026))), (20, rootV (checkN (at_ s.F 1059))), (21, rootV (lmixN (treeN (dep (lvL 4)) (lvC 4 s.nV) (lvX s 4)) s.nV)), (22, rootV (commN (at_ s.F 1093))), (23, rootV (commN (at_ s.F 1525)))] = some (arr 1024 (u8v (stX s))) := by
 rw [h7, h9, h17, two_tree, ← built_st s]
 rfl
end Go.Proofs.YtomilckcgmhfcaaDoor
/- A region that draws its order and holds calls that change memory: these come one behind the other (stages); all else is shown at every stage. (Printed by a program of mine out of an own text.) -/
namespace Go.Proofs.YtomilckcgmhfcaaDoor
set_option maxRecDepth 40000
open Go.RowKit
section
variable {P : Program}
/-- Is it marked? -/
def mkd (ms : List (Option Nat)) (j : Nat) : Bool := match ms[j]? with | some (some _) => true | _ => false
theorem mkd_iff {ms : List (Option Nat)} {j : Nat} : mkd ms j = true ↔ ∃ q, ms[j]? = some (some q) := by
 unfold mkd
 split
 ·rename_i q h; simp [h]
 ·rename_i h
  simp only [Bool.false_eq_true, false_iff, not_exists]
  exact fun q hq => h q hq
/-- How many of the marked ones are listed; how many there are. -/
def cntJ (ms : List (Option Nat)) (listed : Array Bool) : Nat := ((List.range ms.length).filter fun j => mkd ms j && listed.getD j false).length
def cntA (ms : List (Option Nat)) : Nat := ((List.range ms.length).filter fun j => mkd ms j).length
/-- Does an operation come behind j, by way of others? -/
def behB (l : List Oper) (j : Nat) : Nat → Nat → Bool
 | 0, _ => false
 | f + 1, i => match l[i]? with
  | some oi => oi.after.any fun e => Region.binds .any e && (e.on == j || (decide (j < e.on) && behB l j f e.on))
  | none => false
theorem beh_up {l : List Oper} {listed : Array Bool} (hd : ∀ (i : Nat) o, l[i]? = some o → listed.getD i false = true → ∀ e ∈ o.after, Region.binds .any e = true → listed.getD e.on false = true) {j : Nat} :
  ∀ (f i : Nat) (o : Oper), behB l j f i = true → l[i]? = some o → (∀ e ∈ o.after, Region.binds .any e = true → listed.getD e.on false = true) → listed.getD j false = true
 | 0, _, _, h, _, _ => by simp [behB] at h
 | f + 1, i, o, h, hi, hl => by
  unfold behB at h
  rw [hi] at h
  simp only [Array.any_eq_true, Bool.and_eq_true, Bool.or_eq_true, beq_iff_eq, decide_eq_true_eq] at h
  obtain ⟨x, hx, h1, h2⟩ := h
  have h3 := hl o.after[x] (Array.getElem_mem hx) h1
  rcases h2 with h2 | ⟨_, h2⟩
  ·rw [h2] at h3; exact h3
  ·cases ho : l[o.after[x].on]? with
   | none =>
    cases f with
    | zero => simp [behB] at h2
    | succ f => unfold behB at h2; rw [ho] at h2; cases h2
   | some o2 => exact beh_up hd f _ o2 h2 ho (fun e he hb => hd _ o2 ho h3 e he hb)
def marksOk (l : List Oper) (ms : List (Option Nat)) : Bool :=
 decide (ms.length = l.length) && (List.range l.length).all fun i => match ms[i]?, l[i]? with
  | some (some r), some _ => decide (r = ((List.range i).filter fun j => mkd ms j).length) && (List.range i).all fun j => !mkd ms j || behB l j l.length i
  | _, _ => true
structure MarksOk (l : List Oper) (ms : List (Option Nat)) : Prop where
 len : ms.length = l.length
 rank : ∀ i r, ms[i]? = some (some r) → r = ((List.range i).filter fun j => mkd ms j).length
 edge : ∀ i j r oi, l[i]? = some oi → ms[i]? = some (some r) → j < i → (∃ q, ms[j]? = some (some q)) → behB l j l.length i = true
theorem marksOk_spec {l : List Oper} {ms : List (Option Nat)} (h : marksOk l ms = true) : MarksOk l ms := by
 unfold marksOk at h
 rw [Bool.and_eq_true, decide_eq_true_eq, List.all_eq_true] at h
 obtain ⟨h1, h2⟩ := h
 refine ⟨h1, fun i r hr => ?_, fun i j r oi hi hr hj hq => ?_⟩
 ·have hil : i < l.length := by have := (List.getElem?_eq_some_iff.1 hr).1; omega
  have h3 := h2 i (List.mem_range.2 hil)
  rw [hr, show l[i]? = some l[i] by simp [hil]] at h3
  simp only [Bool.and_eq_true, decide_eq_true_eq] at h3
  exact h3.1
 ·have hil : i < l.length := (List.getElem?_eq_some_iff.1 hi).1
  have h3 := h2 i (List.mem_range.2 hil)
  rw [hr, hi] at h3
  simp only [Bool.and_eq_true, List.all_eq_true] at h3
  have h4 := h3.2 j (List.mem_range.2 hj)
  rw [mkd_iff.2 hq] at h4
  simpa only [Bool.not_true, Bool.false_or] using h4
theorem filter_cut (p : Nat → Bool) (i : Nat) : ∀ m, i ≤ m → (∀ j, i ≤ j → j < m → p j = false) → (List.range m).filter p = (List.range i).filter p := by
 intro m
 induction m with
 | zero => intro h _; rw [show i = 0 by omega]
 | succ m ih =>
  intro h hp
  by_cases e : i = m + 1
  ·rw [e]
  ·rw [List.range_succ, List.filter_append, ih (by omega) (fun j h1 h2 => hp j h1 (by omega))]
   simp [hp m (by omega) (by omega)]
theorem cnt_all {l : List Oper} {ms : List (Option Nat)} {listed : Array Bool} (hl : ms.length = l.length) (h : ∀ i, i < l.length → listed.getD i false = true) : cntJ ms listed = cntA ms := by
 unfold cntJ cntA
 congr 1
 refine List.filter_congr fun j hj => ?_
 rw [h j (by rw [← hl]; exact List.mem_range.1 hj), Bool.and_true]
theorem cnt_none {l : List Oper} {ms : List (Option Nat)} {i : Nat} (_hmk : MarksOk l ms) (hm : ms[i]? = some none) (listed : Array Bool) : cntJ ms (listed.setIfInBounds i true) = cntJ ms listed := by
 unfold cntJ
 congr 1
 refine List.filter_congr fun j _ => ?_
 by_cases e : j = i
 ·subst e
  have : mkd ms j = false := by unfold mkd; rw [hm]
  rw [this]; rfl
 ·rw [getD_set_ne false (Ne.symm e)]
theorem cnt_some {l : List Oper} {ms : List (Option Nat)} {i r : Nat} {listed : Array Bool} (hmk : MarksOk l ms) (hm : ms[i]? = some (some r)) (hls : i < listed.size) (hf : listed.getD i false = false)
  (h1 : ∀ j, j < i → (∃ q, ms[j]? = some (some q)) → listed.getD j false = true) (h2 : ∀ j, i < j → (∃ q, ms[j]? = some (some q)) → listed.getD j false = false) : cntJ ms listed = r ∧ cntJ ms (listed.setIfInBounds i true) = r + 1 := by
 have hil : i < ms.length := (List.getElem?_eq_some_iff.1 hm).1
 have hlow : ∀ j, j < i → (mkd ms j && listed.getD j false) = mkd ms j := fun j hj => by
  cases hd : mkd ms j with
  | false => rfl
  | true => rw [h1 j hj (mkd_iff.1 hd)]; rfl
 have hhi : ∀ j, i < j → (mkd ms j && listed.getD j false) = false := fun j hj => by
  cases hd : mkd ms j with
  | false => rfl
  | true => rw [h2 j hj (mkd_iff.1 hd)]; rfl
 unfold cntJ
 constructor
 ·rw [filter_cut _ i ms.length (by omega) (fun j h3 h4 => by
   by_cases e : j = i
   ·subst e; rw [hf, Bool.and_false]
   ·exact hhi j (by omega)), hmk.rank i r hm]
  congr 1
  exact List.filter_congr fun j hj => hlow j (List.mem_range.1 hj)
 ·rw [filter_cut _ (i + 1) ms.length (by omega) (fun j h3 h4 => by
   rw [getD_set_ne false (show i ≠ j by omega)]; exact hhi j (by omega)), List.range_succ, List.filter_append, List.length_append, hmk.rank i r hm]
  congr 1
  ·congr 1
   refine List.filter_congr fun j hj => ?_
   have hj := List.mem_range.1 hj
   rw [getD_set_ne false (show i ≠ j by omega)]; exact hlow j hj
  ·have h5 : mkd ms i = true := mkd_iff.2 ⟨r, hm⟩
   have h6 : (listed.setIfInBounds i true).getD i false = true := by simp [Array.getD, hls]
   have h7 : List.filter (fun j => mkd ms j && (listed.setIfInBounds i true).getD j false) [i] = [i] := by rw [List.filter_cons, h5, h6]; rfl
   rw [h7]; rfl
/-- One operation, by itself: at every stage, or as the one that ends stage k. -/
def opJ (P : Program) (ops : Array Oper) (J : Nat → World → Prop) (o : Oper) (F : SF) (lk : Tmp → SF) (m : Option Nat) : Prop := match m with
 | none => ∀ k w, J k w → opOb P ops w.heap.size w o F lk
 | some k => ∀ a w, J k w → (∀ s ∈ o.looksAt ops, (lk s).F (a.tmps.getD s undef) w) →
  if Region.wanted o (yielded ops a.tmps) = true then o.wp P a w (fun a' w' => ∃ v, a' = a.put o.dst v ∧ F.F v w' ∧ J (k + 1) w') (fun _ _ _ => False) else F.F undef w ∧ J (k + 1) w
def obsJ (P : Program) (ops : Array Oper) (J : Nat → World → Prop) (a0 : Act) : List Oper → List SF → List (Option Nat) → List (Tmp × SF) → Prop
 | [], [], [], _ => True
 | o :: os, F :: Fs, m :: ms, E => opJ P ops J o F (look a0 E) m ∧ obsJ P ops J a0 os Fs ms (push o F E)
 | _, _, _, _ => False
theorem obsJ_at {ops : Array Oper} {J : Nat → World → Prop} {a0 : Act} : ∀ (os : List Oper) (Fs : List SF) (ms : List (Option Nat)) (E : List (Tmp × SF)) (pre : List Oper) (Fp : List SF),
  pre.length = Fp.length →
  (∀ s, (∃ (j : Nat) (o : Oper) (F : SF), pre[j]? = some o ∧ Fp[j]? = some F ∧ o.dst = some s ∧ look a0 E s = F) ∨ ((∀ o ∈ pre, o.dst ≠ some s) ∧ look a0 E s = SF.is (a0.tmps.getD s undef))) →
  obsJ P ops J a0 os Fs ms E → os.length = Fs.length ∧ ∀ k o F m, os[k]? = some o → Fs[k]? = some F → ms[k]? = some m → ∃ lk, opJ P ops J o F lk m ∧
   ∀ s, (∃ (j : Nat) (o' : Oper) (F' : SF), j < pre.length + k ∧ (pre ++ os)[j]? = some o' ∧ (Fp ++ Fs)[j]? = some F' ∧ o'.dst = some s ∧ lk s = F') ∨ ((∀ (j : Nat) (o' : Oper), j < pre.length + k → (pre ++ os)[j]? = some o' → o'.dst ≠ some s) ∧ lk s = SF.is (a0.tmps.getD s undef))
 | [], [], [], _, _, _, _, _, _ => ⟨rfl, fun k o F m h => by simp at h⟩
 | [], [], _ :: _, _, _, _, _, _, h => h.elim
 | [], _ :: _, _, _, _, _, _, _, h => h.elim
 | _ :: _, [], _, _, _, _, _, _, h => h.elim
 | _ :: _, _ :: _, [], _, _, _, _, _, h => h.elim
 | o :: os, F :: Fs, c :: cs, E, pre, Fp, hl, hE, h => by
  obtain ⟨h1, h2⟩ := h
  have hE' : ∀ s, (∃ (j : Nat) (o' : Oper) (F' : SF), (pre ++ [o])[j]? = some o' ∧ (Fp ++ [F])[j]? = some F' ∧ o'.dst = some s ∧ look a0 (push o F E) s = F') ∨ ((∀ o' ∈ pre ++ [o], o'.dst ≠ some s) ∧ look a0 (push o F E) s = SF.is (a0.tmps.getD s undef)) := by
   intro s
   by_cases hd : o.dst = some s
   ·refine .inl ⟨pre.length, o, F, by simp, by simp [hl], hd, ?_⟩
    simp [push, hd, look]
   ·have hp : look a0 (push o F E) s = look a0 E s := by
     unfold push
     cases hdd : o.dst with
     | none => rfl
     | some d => simp only [look]; rw [if_neg (fun e => hd (by rw [hdd, e]))]
    rcases hE s with ⟨j, o', F', h3, h4, h5, h6⟩ | ⟨h3, h4⟩
    ·have hj := (List.getElem?_eq_some_iff.1 h3).1
     exact .inl ⟨j, o', F', by rw [List.getElem?_append_left hj]; exact h3, by rw [List.getElem?_append_left (by omega)]; exact h4, h5, by rw [hp]; exact h6⟩
    ·refine .inr ⟨fun o' ho' => ?_, by rw [hp]; exact h4⟩
     rcases List.mem_append.1 ho' with h5 | h5
     ·exact h3 o' h5
     ·simp at h5; subst h5; exact hd
  obtain ⟨hlen, hrest⟩ := obsJ_at os Fs cs (push o F E) (pre ++ [o]) (Fp ++ [F]) (by simp [hl]) hE' h2
  refine ⟨by simp [hlen], fun k ok Fk ck hk hF hc => ?_⟩
  cases k with
  | zero =>
   simp only [List.getElem?_cons_zero, Option.some.injEq] at hk hF hc
   subst hk hF hc
   refine ⟨look a0 E, h1, fun s => ?_⟩
   rcases hE s with ⟨j, o', F', h3, h4, h5, h6⟩ | ⟨h3, h4⟩
   ·have hj := (List.getElem?_eq_some_iff.1 h3).1
    exact .inl ⟨j, o', F', by omega, by rw [List.getElem?_append_left hj]; exact h3, by rw [List.getElem?_append_left (by omega)]; exact h4, h5, h6⟩
   ·refine .inr ⟨fun j o' hj ho' => ?_, h4⟩
    rw [List.getElem?_append_left (by omega)] at ho'
    exact h3 o' (List.mem_of_getElem? ho')
  | succ k =>
   simp only [List.getElem?_cons_succ] at hk hF hc
   obtain ⟨lk, h3, h4⟩ := hrest k ok Fk ck hk hF hc
   refine ⟨lk, h3, fun s => ?_⟩
   have e1 : pre ++ [o] ++ os = pre ++ o :: os := by simp
   have e2 : Fp ++ [F] ++ Fs = Fp ++ F :: Fs := by simp
   have e3 : (pre ++ [o]).length + k = pre.length + (k + 1) := by simp; omega
   have h5 := h4 s
   rw [e1, e2, e3] at h5
   exact h5
structure RInvJ (n : Nat) (l : List Oper) (Fs : List SF) (ms : List (Option Nat)) (J : Nat → World → Prop) (a0 : Act) (listed : Array Bool) (a : Act) (w : World) : Prop where
 stage : J (cntJ ms listed) w
 tsz : a.tmps.size = n
 dfs : a.defers = a0.defers
 lsz : listed.size = l.length
 fact : ∀ (j : Nat) o F, l[j]? = some o → Fs[j]? = some F → listed.getD j false = true → F.F (match o.dst with | some d => a.tmps.getD d undef | none => undef) w
 rest : ∀ d, (∀ (j : Nat) o, l[j]? = some o → listed.getD j false = true → o.dst ≠ some d) → a.tmps.getD d undef = a0.tmps.getD d undef
 down : ∀ (j : Nat) o, l[j]? = some o → listed.getD j false = true → ∀ e ∈ o.after, Region.binds .any e = true → listed.getD e.on false = true

theorem wpAny_factsJ {l : List Oper} {Fs : List SF} {n N : Nat} {ms : List (Option Nat)} {J : Nat → World → Prop} {a0 : Act} {Q : Exit → Act → World → Prop} (hok : OkR n l.toArray) (hmk : MarksOk l ms) (hlen : l.length = Fs.length) (hN : N = cntA ms) (hJ : ∀ k w w', J k w → Below w.heap.size w w' → J k w') (hp : ∀ F, F ∈ Fs → ∀ v w w', F.F v w → F.F v w')
  (hob : ∀ (k : Nat) o F m, l[k]? = some o → Fs[k]? = some F → ms[k]? = some m → ∃ lk, opJ P l.toArray J o F lk m ∧
   ∀ s, (∃ (j : Nat) (o' : Oper) (F' : SF), j < k ∧ l[j]? = some o' ∧ Fs[j]? = some F' ∧ o'.dst = some s ∧ lk s = F') ∨ ((∀ (j : Nat) (o' : Oper), j < k → l[j]? = some o' → o'.dst ≠ some s) ∧ lk s = SF.is (a0.tmps.getD s undef)))
  (hsz : a0.tmps.size = n) (hfin : ∀ w, J N w → fin (Q .normal) l Fs a0 w) :
  ∀ (fuel : Nat) (listed : Array Bool) (a : Act) (w : World), (∃ u : List Nat, u.Nodup ∧ (∀ i, i ∈ u ↔ i < l.length ∧ listed.getD i false = false) ∧ u.length ≤ fuel) →
   RInvJ n l Fs ms J a0 listed a w → wpAny P .any l.toArray Q fuel listed a w := by
 have ho : ∀ (i : Nat), l.toArray[i]? = l[i]? := fun i => by simp
 -- all listed: the end
 have hend : ∀ (listed : Array Bool) (a : Act) (w : World), RInvJ n l Fs ms J a0 listed a w → (∀ i, i < l.length → listed.getD i false = true) → Q .normal a w := by
  intro listed a w hI hall
  refine fin_use l Fs a0 hlen (hfin w (by rw [hN, ← cnt_all hmk.len hall]; exact hI.stage)) (fun j o F h1 h2 => hI.fact j o F h1 h2 (hall j (List.getElem?_eq_some_iff.1 h1).1)) (hsz.trans hI.tsz.symm) hI.dfs.symm ?_ (fun j o d h1 h2 => by rw [hI.tsz]; exact hok.room j o d (by rw [ho]; exact h1) h2)
  intro d hd
  exact (hI.rest d (fun j o h1 _ => hd j o h1)).symm
 have hnoneReady : ∀ (listed : Array Bool), listed.size = l.length → Region.ready .any l.toArray listed = [] → ∀ i, i < l.length → listed.getD i false = true := by
  intro listed hls hr i
  induction i using Nat.strongRecOn with
  | ind i ih =>
   intro hi
   cases hc : listed.getD i false with
   | true => rfl
   | false =>
    exfalso
    have hil : i < listed.size := by omega
    have : i ∈ Region.ready .any l.toArray listed := mem_ready.2 ⟨by simpa [Array.getD, hil] using hc, l[i], by simp [hi], fun e he hb => ih e.on (hok.back i l[i] (by simp [hi]) e he hb) (by have := hok.back i l[i] (by simp [hi]) e he hb; omega)⟩
    rw [hr] at this; cases this
 intro fuel
 induction fuel with
 | zero =>
  intro listed a w ⟨u, _, hu, hul⟩ hI
  have hun : u = [] := List.eq_nil_of_length_eq_zero (by omega)
  subst hun
  have hall : ∀ i, i < l.length → listed.getD i false = true := fun i hi => by
   cases hc : listed.getD i false with
   | true => rfl
   | false => exact absurd ((hu i).2 ⟨hi, hc⟩) (by simp)
  refine ⟨?_, hend listed a w hI hall⟩
  rw [List.eq_nil_iff_forall_not_mem]
  intro i hi
  obtain ⟨h1, o, h2, _⟩ := mem_ready.1 hi
  have hil : i < l.length := by have := (Array.getElem?_eq_some_iff.1 h2).1; simpa using this
  have h3 := hall i hil
  have hls : i < listed.size := by rw [hI.lsz]; exact hil
  simp [Array.getD, hls] at h1 h3
  rw [h1] at h3; cases h3
 | succ fuel ih =>
  intro listed a w ⟨u, hnd, hu, hul⟩ hI
  refine ⟨fun hr => hend listed a w hI (hnoneReady listed hI.lsz hr), fun i hi => ?_⟩
  obtain ⟨h1, o, h2, h3⟩ := mem_ready.1 hi
  have hil : i < l.length := by have := (Array.getElem?_eq_some_iff.1 h2).1; simpa using this
  have hls : i < listed.size := by rw [hI.lsz]; exact hil
  have hf : listed.getD i false = false := by simpa [Array.getD, hls] using h1
  have h2' : l[i]? = some o := by rw [← ho]; exact h2
  obtain ⟨F, hF⟩ : ∃ F, Fs[i]? = some F := ⟨Fs[i]'(by omega), by simp [show i < Fs.length by omega]⟩
  obtain ⟨m, hm⟩ : ∃ m, ms[i]? = some m := ⟨ms[i]'(by rw [hmk.len]; exact hil), by simp [show i < ms.length by rw [hmk.len]; exact hil]⟩
  obtain ⟨lk, hop, hlk⟩ := hob i o F m h2' hF hm
  -- what its operands are known to be
  have hfacts : ∀ s ∈ o.looksAt l.toArray, (lk s).F (a.tmps.getD s undef) w := by
   intro s hs
   rcases hlk s with ⟨j, o', F', hj, hoj, hFj, hd, e⟩ | ⟨hno, e⟩
   ·rw [e]
    have hlst : listed.getD j false = true := by
     rcases hok.two i j o o' h2 (by rw [ho]; exact hoj) hj with ⟨ed, he, hb, hon⟩ | ⟨h4, _⟩
     ·rw [← hon]; exact h3 ed he hb
     ·exact absurd hs (h4 s hd)
    have := hI.fact j o' F' hoj hFj hlst
    simpa [hd] using this
   ·rw [e]
    refine hI.rest s (fun j o' hoj hl hd => ?_)
    rcases Nat.lt_trichotomy j i with hji | hji | hji
    ·exact hno j o' hji hoj hd
    ·subst hji; rw [hf] at hl; cases hl
    ·rcases hok.two j i o' o (by rw [ho]; exact hoj) h2 hji with ⟨ed, he, hb, hon⟩ | ⟨_, h4⟩
     ·have := hI.down j o' hoj hl ed he hb
      rw [hon, hf] at this; cases this
     ·exact h4 s hd hs
  -- the state behind it
  have hstep : ∀ v w', F.F v w' → J (cntJ ms (listed.setIfInBounds i true)) w' → wpAny P .any l.toArray Q fuel (listed.setIfInBounds i true) (a.put o.dst v) w' := by
   intro v w' hFv hst
   have hroom : ∀ t, o.dst = some t → t < a.tmps.size := fun t ht => by rw [hI.tsz]; exact hok.room i o t h2 ht
   refine ih _ _ _ ⟨u.erase i, hnd.erase i, fun k => ?_, ?_⟩ ?_
   ·rw [hnd.mem_erase_iff, hu k]
    constructor
    ·rintro ⟨hki, hkl, hkf⟩
     exact ⟨hkl, by rw [getD_set_ne false (Ne.symm hki)]; exact hkf⟩
    ·rintro ⟨hkl, hkf⟩
     have hki : k ≠ i := by
      rintro rfl
      simp [Array.getD, hls] at hkf
     exact ⟨hki, hkl, by rw [getD_set_ne false (Ne.symm hki)] at hkf; exact hkf⟩
   ·have : i ∈ u := (hu i).2 ⟨hil, hf⟩
    rw [List.length_erase_of_mem this]; omega
   ·have hset : ∀ j, (listed.setIfInBounds i true).getD j false = true → j = i ∨ listed.getD j false = true := fun j hj => by
     by_cases e : j = i
     ·exact .inl e
     ·rw [getD_set_ne false (Ne.symm e)] at hj; exact .inr hj
    refine ⟨hst, ?_, ?_, by simpa using hI.lsz, ?_, ?_, ?_⟩
    ·rw [← hI.tsz]; cases o.dst <;> simp [Act.put]
    ·rw [← hI.dfs]; cases o.dst <;> simp [Act.put]
    ·intro j oj Fj hoj hFj hlj
     by_cases e : j = i
     ·subst e
      rw [h2'] at hoj; injection hoj with hoj; subst hoj
      rw [hF] at hFj; injection hFj with hFj; subst hFj
      cases hd : o.dst with
      | none => exact (hok.has j o h2 hd).elim
      | some d => simp only []; rw [put_getD _ _ _ _ (by rw [← hd]; exact hroom)]; simpa using hFv
     ·have hl' := (hset j hlj).resolve_left e
      have h5 := hp Fj (List.mem_of_getElem? hFj) _ _ w' (hI.fact j oj Fj hoj hFj hl')
      cases hd : oj.dst with
      | none => simpa [hd] using h5
      | some d =>
       simp only [hd] at h5 ⊢
       rw [put_getD _ _ _ _ hroom, if_neg (fun h6 => e (hok.dsts j i oj o d (by rw [ho]; exact hoj) h2 hd h6))]
       exact h5
    ·intro d hd
     have hne : o.dst ≠ some d := hd i o h2' (by simp [Array.getD, hls])
     rw [put_getD _ _ _ _ hroom, if_neg hne]
     refine hI.rest d (fun j oj hoj hl => hd j oj hoj ?_)
     by_cases e : j = i
     ·subst e; simp [Array.getD, hls]
     ·rw [getD_set_ne false (Ne.symm e)]; exact hl
    ·intro j oj hoj hlj e he hb
     have key : listed.getD e.on false = true := by
      rcases hset j hlj with h4 | h4
      ·subst h4
       rw [h2'] at hoj; injection hoj with hoj; subst hoj
       exact h3 e he hb
      ·exact hI.down j oj hoj h4 e he hb
     have hne : e.on ≠ i := fun h => by rw [h, hf] at key; cases key
     rw [getD_set_ne false (Ne.symm hne)]; exact key
  unfold wpOp
  rw [h2]
  simp only []
  cases m with
  | none =>
   have hthis := hop (cntJ ms listed) w hI.stage a w (Below.refl _ _) hfacts
   have hc := cnt_none hmk hm listed
   split
   ·rename_i hw
    rw [if_pos hw] at hthis
    left
    refine Oper.wp_safe ?_
    have h5 := Oper.wp_mono (K' := wpAny P .any l.toArray Q fuel (listed.setIfInBounds i true)) (fun a' w' ⟨v, e, h6, h7⟩ => by rw [e]; exact hstep v w' h6 (by rw [hc]; exact hJ _ _ _ hI.stage h7)) hthis
    exact h5
   ·rename_i hw
    rw [if_neg hw] at hthis
    exact hstep undef w hthis (by rw [hc]; exact hI.stage)
  | some r =>
   have hbefore : ∀ j, j < i → (∃ q, ms[j]? = some (some q)) → listed.getD j false = true := fun j hj hq => by
    exact beh_up hI.down l.length i o (hmk.edge i j r o h2' hm hj hq) h2' h3
   have hbehind : ∀ j, i < j → (∃ q, ms[j]? = some (some q)) → listed.getD j false = false := fun j hj ⟨q, hq⟩ => by
    cases hl : listed.getD j false with
    | false => rfl
    | true =>
     have hjl : j < l.length := by have := (List.getElem?_eq_some_iff.1 hq).1; rw [hmk.len] at this; exact this
     have := beh_up hI.down l.length j l[j] (hmk.edge j i q l[j] (by simp [hjl]) hq hj ⟨r, hm⟩) (by simp [hjl]) (fun e he hb => hI.down j l[j] (by simp [hjl]) hl e he hb)
     rw [hf] at this; cases this
   obtain ⟨hc1, hc2⟩ := cnt_some hmk hm hls hf hbefore hbehind
   have hthis := hop a w (by rw [← hc1]; exact hI.stage) hfacts
   split
   ·rename_i hw
    rw [if_pos hw] at hthis
    left
    refine Oper.wp_safe ?_
    have h5 := Oper.wp_mono (K' := wpAny P .any l.toArray Q fuel (listed.setIfInBounds i true)) (fun a' w' ⟨v, e, h6, h7⟩ => by rw [e]; exact hstep v w' h6 (by rw [hc2]; exact h7)) hthis
    exact h5
   ·rename_i hw
    rw [if_neg hw] at hthis
    exact hstep undef w hthis.1 (by rw [hc2]; exact hthis.2)

/-- A DRAWN REGION WITH STAGES: the calls that change memory come one behind the other; all else goes on at every stage. -/
theorem wp_region_stage {id n N : Nat} {l : List Oper} (J : Nat → World → Prop) (Fs : List SF) (ms : List (Option Nat)) {Q : Exit → Act → World → Prop} {a : Act} {w : World} (hm : P.follows .mixedOrders = true) (hok : okR n l.toArray = true) (hmk : marksOk l ms = true) (hN : N = cntA ms) (hsz : a.tmps.size = n)
  (hJ : ∀ k w w', J k w → Below w.heap.size w w' → J k w') (hp : ∀ F, F ∈ Fs → ∀ v w w', F.F v w → F.F v w') (h0 : J 0 w) (hob : obsJ P l.toArray J a l Fs ms []) (hfin : ∀ w', J N w' → fin (Q .normal) l Fs a w') : (Code.region id l.toArray true).wp P Q a w := by
 have h1 := obsJ_at (P := P) (J := J) l Fs ms [] [] [] rfl (fun s => .inr ⟨by simp, rfl⟩) hob
 have hnone : ∀ (m j : Nat), (Array.replicate m false).getD j false = false := fun m j => by unfold Array.getD; split <;> simp
 refine wp_region_any hm (wpAny_factsJ (okR_spec hok) (marksOk_spec hmk) h1.1 hN hJ hp (fun k o F m h2 h3 h4 => ?_) hsz hfin _ _ a _ ⟨List.range l.length, List.nodup_range, fun i => ?_, by simp⟩ ⟨?_, hsz, rfl, by simp, ?_, fun _ _ => rfl, ?_⟩)
 ·obtain ⟨lk, h5, h6⟩ := h1.2 k o F m h2 h3 h4
  refine ⟨lk, h5, fun s => ?_⟩
  simpa using h6 s
 ·simp [Array.getD]
 ·have hc : cntJ ms (Array.replicate l.toArray.size false) = 0 := by
   unfold cntJ
   rw [List.length_eq_zero_iff, List.filter_eq_nil_iff]
   intro j _
   rw [hnone]; simp
  rw [hc]
  exact hJ _ _ _ h0 (Below.refl _ _).drew
 ·intro j o F h2 h3 h4
  simp [Array.getD] at h4
 ·intro j o h2 h4
  simp [Array.getD] at h4
theorem pure_is {Fs : List Value} : ∀ F, F ∈ Fs.map SF.is → ∀ v w w', F.F v w → F.F v w' := fun F hF => by
 obtain ⟨e, _, rfl⟩ := List.mem_map.1 hF
 exact fun _ _ _ h => h
/-- The call that ends stage k. -/
theorem opJ_fn {ops : Array Oper} {J : Nat → World → Prop} {o : Oper} {F : SF} {lk : Tmp → SF} {k : Nat} {f : FuncId} (hent : ∀ vs w, (callFunc f vs).run P w = .ok (.enter f vs) w) {xs : Array Operand} {vs : Array Value} {ts : Array TypeId} (hg : o.guard = none) (hop : o.op = .call { callee := .value (.func f), args := xs, argTypes := ts }) (hx : ∀ a w, Opd lk o a w → xs.map a.eval = vs)
  (hr : ∀ w, J k w → Calls P f vs w fun e w' => ∃ v, e = .returned v ∧ F.F v w' ∧ J (k + 1) w') : opJ P ops J o F lk (some k) := by
 intro a w hj hf
 rw [if_pos (by simp [Region.wanted, hg])]
 have hO : Opd lk o a w := fun s hs => by rw [← getD_eq]; exact hf s (List.mem_append_left _ hs)
 have hrun : (execOp a.eval o).run P w = .ok (.enter f vs) w := by
  have h1 := hx a w hO
  unfold execOp
  rw [hop]
  simp only [resolve]
  rw [show (Array.map (fun x => a.eval x) xs) = vs from h1]
  simp [invoke, Deferred.ofValue, Act.eval, hent]
 unfold Oper.wp
 rw [hrun]
 exact (hr w hj).mono fun e w' ⟨v, he, h1, h2⟩ => by subst he; exact ⟨v, rfl, h1, h2⟩
theorem opJ_fn1 {ops : Array Oper} {J : Nat → World → Prop} {o : Oper} {F : SF} {lk : Tmp → SF} {k : Nat} {f : FuncId} (hent : ∀ vs w, (callFunc f vs).run P w = .ok (.enter f vs) w) {x : Operand} {v : Value} {ts : Array TypeId} (hg : o.guard = none) (hop : o.op = .call { callee := .value (.func f), args := #[x], argTypes := ts }) (hx : OpK lk x v)
  (hr : ∀ w, J k w → Calls P f #[v] w fun e w' => ∃ r, e = .returned r ∧ F.F r w' ∧ J (k + 1) w') : opJ P ops J o F lk (some k) :=
 opJ_fn hent hg hop (fun a w hf => by
  have h := hx.eval hf (by rw [hop]; simp [Op.operands, Call.operands])
  simp [h]) hr
theorem opJ_fn3 {ops : Array Oper} {J : Nat → World → Prop} {o : Oper} {F : SF} {lk : Tmp → SF} {k : Nat} {f : FuncId} (hent : ∀ vs w, (callFunc f vs).run P w = .ok (.enter f vs) w) {x y z : Operand} {v u t : Value} {ts : Array TypeId} (hg : o.guard = none) (hop : o.op = .call { callee := .value (.func f), args := #[x, y, z], argTypes := ts }) (hx : OpK lk x v) (hy : OpK lk y u) (hz : OpK lk z t)
  (hr : ∀ w, J k w → Calls P f #[v, u, t] w fun e w' => ∃ r, e = .returned r ∧ F.F r w' ∧ J (k + 1) w') : opJ P ops J o F lk (some k) :=
 opJ_fn hent hg hop (fun a w hf => by
  have h := hx.eval hf (by rw [hop]; simp [Op.operands, Call.operands])
  have h' := hy.eval hf (by rw [hop]; simp [Op.operands, Call.operands])
  have h'' := hz.eval hf (by rw [hop]; simp [Op.operands, Call.operands])
  simp [h, h', h'']) hr
/-- Its guard says yes. -/
theorem opJ_on {ops : Array Oper} {J : Nat → World → Prop} {F : SF} {lk : Tmp → SF} {k : Nat} {dst : Option Tmp} {op : Op} {type : TypeId} {pos : String} {after : Array Edge} {j : Nat} {want : Bool} (d : Tmp) (hj : (ops[j]?).bind (·.dst) = some d) (hlk : lk d = SF.is (.bool want))
  (h : opJ P ops J ⟨dst, op, type, pos, after, none⟩ F lk (some k)) : opJ P ops J ⟨dst, op, type, pos, after, some (j, want)⟩ F lk (some k) := by
 intro a w hb hf
 have h1 := hf d (by unfold Oper.looksAt; refine List.mem_append_right _ ?_; simp [hj])
 rw [hlk] at h1
 have hw : Region.wanted (⟨dst, op, type, pos, after, some (j, want)⟩ : Oper) (yielded ops a.tmps) = true := by
  have h2 : a.tmps.getD d undef = .bool want := h1
  have h3 : a.tmps[d]? = some (.bool want) := by
   rw [getD_eq] at h2
   cases h4 : a.tmps[d]? with
   | none => rw [h4] at h2; cases h2
   | some v => rw [h4] at h2; simp at h2; rw [h2]
  simp [Region.wanted, yielded, hj, h3]
 rw [if_pos hw]
 have h5 := h a w hb (fun s hs => hf s (by
  unfold Oper.looksAt at hs ⊢
  simp only [List.append_nil] at hs
  exact List.mem_append_left _ hs))
 rw [if_pos (by rfl)] at h5
 exact h5
end
end Go.Proofs.YtomilckcgmhfcaaDoor
