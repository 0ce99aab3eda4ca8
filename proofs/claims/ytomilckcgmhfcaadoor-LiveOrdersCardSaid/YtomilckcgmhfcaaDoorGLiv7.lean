/- A part of what the proofs stand on: Bytes, WordFn, Step, OwnZ, BuildS, Guard, LawOps, Ptr, Ord, SignGood, TreeRef, AppZ, CutZ, TreeTree, Fold. -/
import Derived.Test.YtomilckcgmhfcaaDoorGLiv1
import Derived.Test.YtomilckcgmhfcaaDoorGLiv6
import Derived.Test.YtomilckcgmhfcaaDoorGLiv5
import Derived.Test.YtomilckcgmhfcaaDoorGLiv2
import Derived.RegionTactic
import Derived.Laws.Pointers
import Derived.Test.YtomilckcgmhfcaaDoorGLiv4
/- The eight bytes of a number, by the program and by the reference. -/
namespace Go.Proofs.YtomilckcgmhfcaaDoor
set_option maxRecDepth 40000
open Go.RowKit
/-- The first n of v, and zeros. -/
def padN (n : Nat) (v : Nat → Nat) : Nat → Nat := fun i => if i < n then v i else 0
theorem padN_lt {n : Nat} {v : Nat → Nat} (hv : ∀ i, v i < 256) (i : Nat) : padN n v i < 256 := by unfold padN; split; exact hv i; omega
/-- How many chunks n bytes fill. -/
def nch (n : Nat) : Nat := (n + 31) / 32
/-- Byte i of n. -/
def leB (n i : Nat) : Nat := n / 2 ^ (8 * i) % 256
theorem leB_lt (n i : Nat) : leB n i < 256 := Nat.mod_lt _ (by omega)
theorem le_byte (n j : Nat) : Value.int .u8 ((n : Int) / 2 ^ (8 * j) % 256) = .int .u8 ((leB n j : Nat) : Int) := by
 unfold leB; simp
theorem le_step {n j i : Nat} (v : Value) (hv : v = .int .u8 ((leB n j : Nat) : Int)) : (if i = j then v else u8v (fun i => if i < j then leB n i else 0) i) = u8v (fun i => if i < j + 1 then leB n i else 0) i := by
 by_cases e : i = j
 ·subst e; rw [if_pos rfl, hv]; simp only [u8v]; rw [if_pos (by omega)]
 ·rw [if_neg e]; simp only [u8v]
  by_cases e2 : i < j
  ·rw [if_pos e2, if_pos (by omega)]
  ·rw [if_neg e2, if_neg (by omega)]
set_option maxHeartbeats 1000000 in
theorem bytes_look (n : Nat) (w : World) :
  Calls Tryd.prog 55 #[.int .u64 (n : Int)] w fun e w' => e = .returned (.agg (arr 8 (u8v (leB n)))) ∧ Below w.heap.size w w' := by
 have H0 := Lib.hid (((HS.nil w).allocB _ _ 108 8 (u8v fun _ => 0) (by rfl) (zero_at 8 (.int .u8 0)) rfl).allocB (w.heap.size + 1) _ 108 8 (u8v fun i => if i < 0 then leB n i else 0) (by rfl) (zero_at 8 (.int .u8 0)) (by simp))
 go_enter Tryd.func55, Tryd.ntmps55
 go_wp2_with fail
 go_loopw [5] (fun i wq => ∃ j : Nat, j ≤ 8 ∧ i = .int .i64 j ∧ HS w wq [⟨w.heap.size + 1, 108, 8, u8v fun i => if i < j then leB n i else 0⟩, ⟨w.heap.size, 108, 8, u8v fun _ => 0⟩]) (fun i _ => 8 - (intOf i).toNat)
 case atStart => exact ⟨0, by omega, rfl, H0.out⟩
 case round =>
  clear H0
  obtain ⟨j, hj, rfl, hs⟩ := hrel
  by_cases hj8 : j < 8
  ·have co := hs.cell 0 j rfl hj8
   have fo := hs.frozen 0 j rfl
   have HSq := Lib.hid hs
   clear hs
   go_wp2_with fail
   go_roundw
   case rel => exact ⟨j + 1, by omega, by go_num, (HSq.out.set 0 j rfl _).congr 0 rfl (fun i _ => le_step _ (le_byte n j))⟩
   case measure => simp [intOf]; omega
  ·obtain rfl : j = 8 := by omega
   have HX := Lib.hid (heap_arr (hs.row 0 rfl))
   have HR := Lib.hid (hs.row 1 rfl)
   have HSq := Lib.hid hs
   clear hs
   go_wp2_with (first
    | (refine wpList_load_row rfl 108 (.tmp 3) rfl (w.heap.size + 1) rfl 108 _ _ _ HX.out Tryd.underlying108 rfl (by kernel_rfl) ?_)
    | (refine wpList_store_arr rfl 108 (.tmp 2) (.tmp 16) rfl HR.out _ rfl rfl (size_arr _ _) (by kernel_rfl) (fun i hi => ⟨_, arr_at _ _ i hi, rfl⟩) ?_))
   have hend := HSq.out.setRow 1 rfl (arr 8 (u8v fun i => if i < 8 then leB n i else 0)) (size_arr _ _) _ (fun i hi => arr_at _ _ i hi)
   refine ret_rowIs rfl (hend.row 1 rfl) _ rfl Tryd.underlying108 rfl (by kernel_rfl) rfl ?_
   refine ⟨?_, hend.out (by simp)⟩
   rw [arr_congr (g := u8v (leB n)) (fun i hi => by simp only [u8v]; rw [if_pos hi])]
end Go.Proofs.YtomilckcgmhfcaaDoor
/- Functions of package word, and of its reference. -/
namespace Go.Proofs.YtomilckcgmhfcaaDoor
set_option maxRecDepth 40000
open Go.RowKit
section
variable {P : Program}
/-- The lesser of two whole numbers. -/
theorem wpList_min {ops : Array Oper} {rest : List Oper} {o : Oper} {a : Act} {w : World} {Q : Exit → Act → World → Prop} (hgd : o.guard = none) {x y : Operand} {ts : Array TypeId} (ho : o.op = .call { callee := .builtin .min, args := #[x, y], argTypes := ts })
  (k : IntKind) (i j m : Int) (hx : a.eval x = .int k i) (hy : a.eval y = .int k j) (hm : m = if j < i then j else i) (hK : wpList P ops Q rest (a.put o.dst (.int k m)) w) : wpList P ops Q (o :: rest) a w :=
 wpList_plain hgd fun _ hK' => by
  have hrun : (execOp a.eval o).run P w = .ok (.value (.int k m)) w := by
   unfold execOp
   subst hm
   simp only [ho, resolve, invoke, builtin, Sem.run_bind, Sem.run_pure, Result.andThen_ok, List.map_toArray, List.map_cons, List.map_nil, hx, hy]
   simp [Builtin.min_, Builtin.min2, go_sem]
  unfold Oper.wp
  rw [hrun]
  exact hK' _ _ hK
end
end Go.Proofs.YtomilckcgmhfcaaDoor
/- Steps of a walk whose world is a letter behind them. -/
namespace Go.Proofs.YtomilckcgmhfcaaDoor
set_option maxRecDepth 40000
open Go.RowKit
theorem add_litO (g o n : Nat) : (⟨g, o, none⟩ : Addr).add n = ⟨g, o + n, none⟩ := by unfold Addr.add; split <;> simp_all
section
variable {P : Program}
/-- Two results, the first in memory. -/
theorem ret_rowTmp {fn : Func} {R : Ending → World → Prop} {a : Act} {w : World} {p q : Tmp} {ty : TypeId} (h : fn.results = #[.cell p ty, .tmp q]) {b : Nat} {t : TypeId} {n : Nat} {f : Nat → Value} (hr : w.rowIs b t n f) (d : TypeDesc) (v : Value)
  (hp : a.tmps.getD p undef = .pointer (some ⟨b, 0, none⟩)) (hq : a.tmps.getD q undef = v)
  (hu : P.underlying ty = some d) (hd : (match d with | .struct _ | .array _ _ => true | _ => false) = true) (hi : (P.info? ty).map (·.size) = some n) (hdf : a.defers = [])
  (hR : R (.returned (.tuple #[.agg (arr n f), v])) w) : bodyPost P fn R .ret a w := by
 refine bodyPost_ret (v := .tuple #[.agg (arr n f), v]) ?_ hdf hR
 have hp' : a.tmps[p]?.getD undef = .pointer (some ⟨b, 0, none⟩) := by simpa using hp
 have hq' : a.tmps[q]?.getD undef = v := by simpa using hq
 simp [results, h, hp', hq', asAddr, run_loadVar_row w b t ty (arr n f) (0, 0) d (heap_arr hr) hu hd (by rw [hi, size_arr])]
/-- A whole array is laid into row k; the world is a letter. -/
theorem wpList_storeH {ops : Array Oper} {rest : List Oper} {o : Oper} {a : Act} {w w0 : World} {Q : Exit → Act → World → Prop} {rows : List RowSpec} (hgd : o.guard = none) (ty : TypeId) (x y : Operand) (ho : o.op = .store ty x y) (h : HS w0 w rows) (k : Nat) {b : Nat} {t : TypeId} {n : Nat} {f : Nat → Value} (hk : rows[k]? = some ⟨b, t, n, f⟩)
  (g : Nat → Value) (hx : a.eval x = .pointer (some ⟨b, 0, none⟩)) (hy : a.eval y = .agg (arr n g)) (hi : (P.info? ty).map (·.size) = some n) (h1 : ∀ i, i < n → (g i).oneCell' = true)
  (hK : ∀ w', HS w0 w' (rows.set k ⟨b, t, n, g⟩) → wpList P ops Q rest (a.put o.dst undef) w') : wpList P ops Q (o :: rest) a w :=
 wpList_store_arr hgd ty x y ho (h.row k hk) (arr n g) hx hy (size_arr _ _) hi (fun i hi => ⟨_, arr_at _ _ i hi, h1 i hi⟩) (hK _ (h.setRow k hk (arr n g) (size_arr _ _) g (fun i hi => arr_at _ _ i hi)))
/-- An operation's value, said by the caller. -/
theorem wpList_as {ops : Array Oper} {rest : List Oper} {o : Oper} {a : Act} {w : World} {Q : Exit → Act → World → Prop} (hgd : o.guard = none) (d : Tmp) (_hd : o.dst = some d) (v : Value) (h : (execOp a.eval o).run P w = .ok (.value v) w) (hK : wpList P ops Q rest (a.put o.dst v) w) : wpList P ops Q (o :: rest) a w :=
 wpList_plain hgd fun _ hK' => by
  unfold Oper.wp
  rw [h]
  exact hK' _ _ hK
/-- A new variable of zero cells: its block and its world are letters. -/
theorem wp_allocL {o : Oper} {a : Act} {w w0 : World} {K : Act → World → Prop} {Q : Exit → Act → World → Prop} {rows : List RowSpec} (t : TypeId) (d : Tmp) (_hd : o.dst = some d) (ho : o.op = .alloc t) (h : HS w0 w rows) (cs : Array Value)
  (hz : (P.info? t).bind (·.zero) = some (.agg cs)) (n : Nat) (f : Nat → Value) (hn : cs.size = n) (hc : ∀ i, i < n → cs[i]? = some (f i)) (hK : ∀ b w', w0.heap.size ≤ b → w.heap.size ≤ b → HS w0 w' (⟨b, t, n, f⟩ :: rows) → K (a.put o.dst (.pointer (some ⟨b, 0, none⟩))) w') : o.wp P a w K Q := by
 have hr : (Instr.alloc t true (.tuple #[])).run P w = .ok (.pointer (some ⟨w.heap.size, 0, none⟩)) (w.alloc (.cells cs t)) := by
  cases hq : P.info? t with
  | none => rw [hq] at hz; simp at hz
  | some i =>
   rw [hq] at hz
   simp at hz
   simp [Instr.alloc, zeroValue, typeInfo, hq, hz, newVar, Value.cells, go_sem]
 unfold Oper.wp execOp
 simp only [ho, Sem.run_bind, hr, Result.andThen_ok, Sem.run_pure]
 exact hK _ _ h.size (Nat.le_refl _) (h.alloc cs t n f hn hc)
theorem wpList_allocL {ops : Array Oper} {rest : List Oper} {o : Oper} {a : Act} {w w0 : World} {Q : Exit → Act → World → Prop} {rows : List RowSpec} (hgd : o.guard = none) (t : TypeId) (d : Tmp) (hd : o.dst = some d) (ho : o.op = .alloc t) (h : HS w0 w rows) (cs : Array Value)
  (hz : (P.info? t).bind (·.zero) = some (.agg cs)) (n : Nat) (f : Nat → Value) (hn : cs.size = n) (hc : ∀ i, i < n → cs[i]? = some (f i)) (hK : ∀ b w', w0.heap.size ≤ b → w.heap.size ≤ b → HS w0 w' (⟨b, t, n, f⟩ :: rows) → wpList P ops Q rest (a.put o.dst (.pointer (some ⟨b, 0, none⟩))) w') : wpList P ops Q (o :: rest) a w :=
 wpList_plain hgd fun _ hK' => wp_allocL t d hd ho h cs hz n f hn hc fun b w' h1 h1' h2 => hK' _ _ (hK b w' h1 h1' h2)
/-- An argument that is kept: its block and its world are letters. -/
theorem wpList_boxL {ops : Array Oper} {rest : List Oper} {o : Oper} {a : Act} {w w0 : World} {Q : Exit → Act → World → Prop} {rows : List RowSpec} (hgd : o.guard = none) (ty : TypeId) (x : Operand) (d : Tmp) (_hd : o.dst = some d) (ho : o.op = .box ty x) (h : HS w0 w rows)
  (n : Nat) (f : Nat → Value) (hx : a.eval x = .agg (arr n f)) (hK : ∀ b w', w0.heap.size ≤ b → w.heap.size ≤ b → HS w0 w' (⟨b, ty, n, f⟩ :: rows) → wpList P ops Q rest (a.put o.dst (.pointer (some ⟨b, 0, none⟩))) w') : wpList P ops Q (o :: rest) a w :=
 wpList_box hgd ty x ho n f hx fun w' h1 h2 => hK _ w' h.size (Nat.le_refl _) ((h.below h2).add h1 h.size fun r hr => by have := (h.has r hr).lt; omega)
theorem wp_storeL {o : Oper} {a : Act} {w w0 : World} {K : Act → World → Prop} {Q : Exit → Act → World → Prop} {rows : List RowSpec} (ty : TypeId) (x y : Operand) (ho : o.op = .store ty x y) (h : HS w0 w rows) (k : Nat) {b : Nat} {t : TypeId} {n : Nat} {f : Nat → Value} (hk : rows[k]? = some ⟨b, t, n, f⟩)
  (g : Nat → Value) (hx : a.eval x = .pointer (some ⟨b, 0, none⟩)) (hy : a.eval y = .agg (arr n g)) (hi : (P.info? ty).map (·.size) = some n) (h1 : ∀ i, i < n → (g i).oneCell' = true)
  (hK : ∀ w', HS w0 w' (rows.set k ⟨b, t, n, g⟩) → K (a.put o.dst undef) w') : o.wp P a w K Q :=
 wp_sto_arr ho (h.row k hk) (arr n g) hx hy (size_arr _ _) hi (fun i hi => ⟨_, arr_at _ _ i hi, h1 i hi⟩) (hK _ (h.setRow k hk (arr n g) (size_arr _ _) g (fun i hi => arr_at _ _ i hi)))
/-- copy into a part of row k. -/
theorem wp_copyL {o : Oper} {a : Act} {w w0 : World} {K : Act → World → Prop} {Q : Exit → Act → World → Prop} {rows : List RowSpec} {d s : Operand} {dT sT elem : TypeId} (hop : o.op = .call { callee := .builtin .copy, args := #[d, s], argTypes := #[dT, sT] }) (hu : P.underlying dT = some (.slice elem)) (hs : (P.info? elem).map (·.size) = some 1)
  (h : HS w0 w rows) (k : Nat) {b : Nat} {t : TypeId} {N : Nat} {F : Nat → Value} (hk : rows[k]? = some ⟨b, t, N, F⟩) (off dLen dCap : Nat) {A : Option Addr} {sLen sCap B : Nat} {fs : Nat → Value} (hsrc : Rd w B A sLen fs) (h1 : ∀ i, i < sLen → (fs i).oneCell' = true) (n : Nat) (hn : n = min sLen dLen) (hfit : off + n ≤ N)
  (hd : a.eval d = .slice (some ⟨b, off, none⟩) dLen dCap) (hss : a.eval s = .slice A sLen sCap) (G : Nat → Value) (hG : ∀ j, j < N → (if off ≤ j ∧ j < off + n then fs (j - off) else F j) = G j)
  (hK : ∀ w1, HS w0 w1 (rows.set k ⟨b, t, N, G⟩) → K (a.put o.dst (.int .i64 (n : Int))) w1) : o.wp P a w K Q :=
 wp_copy_fn hop hu hs (h.row k hk) off dLen dCap hsrc h1 n hn hfit hd hss fun w1 hr hg => hK w1 (h.write k hk hg (hr.congr hG))
end
theorem row_ne {w : World} {b b' : Nat} {t t' : TypeId} {n n' : Nat} {f f' : Nat → Value} (h : w.rowIs b t n f) (h' : w.rowIs b' t' n' f') (hne : t ≠ t') : b ≠ b' := by
 rintro rfl
 obtain ⟨c, hc, _⟩ := h
 obtain ⟨c', hc', _⟩ := h'
 rw [hc] at hc'
 injection hc' with hc'
 injection hc' with _ h2
 exact hne h2
/-- A new variable. -/
def SF.new (base : Nat) (t : TypeId) (n : Nat) (f : Nat → Value) : SF := ⟨fun v w => ∃ b, v = .pointer (some ⟨b, 0, none⟩) ∧ base ≤ b ∧ w.rowIs b t n f, fun _ _ _ ⟨b, e, h1, h⟩ hb => ⟨b, e, h1, row_below h hb h.lt⟩⟩
section
variable {P : Program} {ops : Array Oper} {B : Nat} {w0 : World} {o : Oper} {lk : Tmp → SF}
theorem opOb_new (base : Nat) {t : TypeId} (hg : o.guard = none) (hop : o.op = .alloc t) (cs : Array Value) (hz : (P.info? t).bind (·.zero) = some (.agg cs)) (n : Nat) (f : Nat → Value) (hn : cs.size = n) (hc : ∀ i, i < n → cs[i]? = some (f i)) (hb : base ≤ w0.heap.size) : opOb P ops B w0 o (SF.new base t n f) lk :=
 opOb_of hg fun a w hbel hf => by
  have hr : (Instr.alloc t true (.tuple #[])).run P w = .ok (.pointer (some ⟨w.heap.size, 0, none⟩)) (w.alloc (.cells cs t)) := by
   cases hq : P.info? t with
   | none => rw [hq] at hz; simp at hz
   | some i =>
    rw [hq] at hz
    simp at hz
    simp [Instr.alloc, zeroValue, typeInfo, hq, hz, newVar, Value.cells, go_sem]
  unfold Oper.wp execOp
  simp only [hop, Sem.run_bind, hr, Result.andThen_ok, Sem.run_pure]
  have h0 := (HS.nil w).alloc cs t n f hn hc
  exact ⟨_, rfl, ⟨w.heap.size, rfl, Nat.le_trans hb hbel.size, h0.row 0 rfl⟩, h0.out (by simp)⟩
end
end Go.Proofs.YtomilckcgmhfcaaDoor
/- Rows of the call's own whose elements have z cells each: append of whatever reads as a function of its index. -/
namespace Go.Proofs.YtomilckcgmhfcaaDoor
set_option maxRecDepth 40000
open Go.RowKit
/-- The slice '.slice A n c' of elements of z cells is the call's own, and its cells read as f. -/
def OwnZ (w : World) (base : Nat) (e : TypeId) (z : Nat) (A : Option Addr) (n c : Nat) (f : Nat → Value) : Prop := w.ownsRow base e z (.slice A n c) n ((List.range (n * z)).map f)
section
variable {w w' : World} {base z n c : Nat} {e : TypeId} {A : Option Addr} {f f' : Nat → Value}
theorem OwnZ.nil (w : World) (base : Nat) (e : TypeId) (z : Nat) (f : Nat → Value) : OwnZ w base e z none 0 0 f := by
 have := World.ownsRow_nil w base e z
 unfold OwnZ
 simpa using this
theorem OwnZ.congr (h : OwnZ w base e z A n c f) (k : ∀ i, i < n * z → f i = f' i) : OwnZ w base e z A n c f' := by
 unfold OwnZ at *
 rwa [← List.map_congr_left (fun i hi => k i (List.mem_range.1 hi))]
theorem OwnZ.rd (h : OwnZ w base e z A n c f) : Rd w w.heap.size A (n * z) f := fun hn => by
 have hn' : 0 < n := by
  rcases Nat.eq_zero_or_pos n with h0 | h0
  ·subst h0; simp at hn
  ·exact h0
 obtain ⟨g, cap, hv, hb, hlt⟩ := World.ownsRow.form h hn'
 have hA : A = some ⟨g, 0, none⟩ := by injection hv
 subst hA
 refine ⟨_, rfl, hlt, fun i hi => ?_⟩
 have h2 : c = cap := by injection hv
 subst h2
 rw [add_lit0, World.ownsRow.cellAt h i hi]
 simp [hi]
theorem OwnZ.base_le (h : OwnZ w base e z A n c f) : ∀ ad, A = some ad → base ≤ ad.block ∧ ad.block < w.heap.size := by
 rintro ad rfl
 exact World.ownsRow.lt h _ rfl
theorem OwnZ.off (h : OwnZ w base e z A n c f) : ∀ ad, A = some ad → ad = ⟨ad.block, 0, none⟩ := by
 rintro ad rfl
 rcases h.2 with ⟨hv, _⟩ | ⟨g, cap, cur, hv, _⟩
 ·injection hv with h1; cases h1
 ·injection hv with h1; injection h1 with h1; rw [h1]
theorem OwnZ.cap (h : OwnZ w base e z A n c f) : n ≤ c := by
 rcases h.2 with ⟨hv, _⟩ | ⟨g, cap, cur, hv, _, _, hnc, _⟩
 ·injection hv with _ h1 h2; omega
 ·injection hv with _ h1 h2; omega
theorem OwnZ.capM (h : OwnZ w base e z A n c f) : c ≤ maxLen := by
 rcases h.2 with ⟨hv, _⟩ | ⟨g, cap, cur, hv, _, _, hnc, hm, _⟩
 ·injection hv with _ h1 h2; omega
 ·injection hv with _ h1 h2; omega
theorem OwnZ.kept {row : Option Nat} (h : OwnZ w base e z A n c f) (hg : w.grownBy w' row) (hne : ∀ ad, A = some ad → some ad.block ≠ row) : OwnZ w' base e z A n c f := by
 refine World.ownsRow.kept h hg ?_
 cases A with
 | none => exact .inl rfl
 | some ad => exact .inr (hne ad rfl)
theorem OwnZ.below {B : Nat} (h : OwnZ w base e z A n c f) (hb : Below B w w') (hB : ∀ ad, A = some ad → ad.block < B) : OwnZ w' base e z A n c f := by
 obtain ⟨h1, h2⟩ := h
 refine ⟨h1, ?_⟩
 rcases h2 with h2 | ⟨g, cap, cur, hv, hg, hh, r⟩
 ·exact .inl h2
 ·refine .inr ⟨g, cap, cur, hv, hg, ?_, r⟩
  have hA : A = some ⟨g, 0, none⟩ := by injection hv
  rw [hb.block g (hB _ hA)]
  exact hh
/-- All that lay there before stays. -/
theorem OwnZ.all (h : OwnZ w base e z A n c f) (hb : Below w.heap.size w w') : OwnZ w' base e z A n c f := h.below hb fun ad e => (h.base_le ad e).2
theorem OwnZ.mono {base' : Nat} (h : OwnZ w base e z A n c f) (hb : base' ≤ base) : OwnZ w base' e z A n c f :=
 ⟨h.1, h.2.imp id fun ⟨g, cap, cur, h1, h2, h3⟩ => ⟨g, cap, cur, h1, Nat.le_trans hb h2, h3⟩⟩
theorem OwnZ.of_row {g m : Nat} (h : w.rowIs g e (m * z) f) (hb : base ≤ g) (hm : m ≤ maxLen) : OwnZ w base e z (some ⟨g, 0, none⟩) m m f := by
 obtain ⟨cs, hh, hs, hc⟩ := h
 refine ⟨by simp, .inr ⟨g, m, cs, rfl, hb, hh, Nat.le_refl _, hm, by omega, ?_⟩⟩
 apply List.ext_getElem?
 intro i
 by_cases hi : i < m * z
 ·simp [hi, hc i hi]
 ·simp [List.getElem?_take, hi]
end
section
variable {P : Program} (w : World)
theorem run_appZ (base : Nat) (t ty e : TypeId) (i : TypeInfo) (z : Value) (k bytes : Nat) (ht : P.underlying t = some (.slice e)) (hi : P.info? e = some i) (hz : i.zero = some z)
  (hsize : i.size = k) (hby : i.bytes = bytes) (hzs : z.cells.size = k) (hk : 0 < k)
  {A C : Option Addr} {n c m cm B : Nat} {f g : Nat → Value} (hown : OwnZ w base e k A n c f) (hr : Rd w B C (m * k) g) (h1 : ∀ i, i < m * k → (g i).oneCell' = true)
  (hbytes : n + m ≤ 9223372036854775807 ∧ (n + m) * bytes ≤ 140737488355328) (hbase : base ≤ w.heap.size) :
  ∃ A' c' w', (Builtin.append_ #[t, t] ty #[.slice A n c, .slice C m cm]).run P w = .ok (.slice A' (n + m) c') w' ∧ OwnZ w' base e k A' (n + m) c' (catF (n * k) f g) ∧
   w.grownBy w' (A.map (·.block)) ∧ (∀ ad, A' = some ad → some ad.block = A.map (·.block) ∨ ad.block = w.heap.size) := by
 rcases C with _ | ad
 ·have hm : m = 0 := by
   rcases Nat.eq_zero_or_pos m with h0 | h0
   ·exact h0
   ·obtain ⟨ad, h, _⟩ := hr (Nat.mul_pos h0 hk)
    cases h
  subst hm
  refine ⟨A, c, w, ?_, hown.congr (fun i hi => by simp [catF, hi]), World.grownBy.refl w _, fun ad h => .inl (by rw [h]; rfl)⟩
  rcases hown.2 with ⟨hv, h0⟩ | ⟨g', cap, cur, hv, _, _, hnc, _⟩
  ·injection hv with h1 h2 h3; subst h1 h2 h3
   simp [Builtin.append_, run_underlying ht, sizeOf, typeInfo, hi, Builtin.lenOf, Builtin.firstCells]
  ·injection hv with h1 h2 h3; subst h1 h3
   simp [Builtin.append_, run_underlying ht, sizeOf, typeInfo, hi, Builtin.lenOf, Builtin.firstCells, hnc, storeCells]
 ·have hcells : ∀ j u, ((List.range (m * k)).map g)[j]? = some u → w.cell? (ad.add j) = some u := by
   intro j u hu
   have hj : j < m * k := by
    rcases Nat.lt_or_ge j (m * k) with h | h
    ·exact h
    ·simp [h] at hu
   obtain ⟨ad', h, _, hc⟩ := hr (by omega)
   injection h with h; subst h
   rw [hc j hj]
   simpa [hj] using hu
  obtain ⟨v', w', hrun, h2, h3, _, h5⟩ := run_append_own_at (P := P) w base t ty e i z k bytes ht hi hz hsize hby hzs hk (.slice A n c) n _ hown ad m cm ((List.range (m * k)).map g) (by simp) hcells
   (fun u hu => by obtain ⟨j, hj, rfl⟩ := List.mem_map.1 hu; exact h1 j (List.mem_range.1 hj)) (by unfold maxLen; omega) hbytes.2 hbase
  rw [catF_map, ← Nat.add_mul] at h2
  have hv : ∃ A' c', v' = .slice A' (n + m) c' := by
   rcases h2.2 with ⟨h, h0⟩ | ⟨g', cap, cur, h, _⟩
   ·exact ⟨none, 0, by rw [h, h0]⟩
   ·exact ⟨_, _, h⟩
  obtain ⟨A', c', rfl⟩ := hv
  have hb : Value.ownBlock (.slice A n c) = A.map (·.block) := by cases A <;> rfl
  rw [hb] at h3 h5
  refine ⟨A', c', w', hrun, h2, h3, ?_⟩
  rintro ad' rfl
  rcases h5 with h5 | h5
  ·exact .inl h5
  ·exact .inr (by simpa [Value.ownBlock] using h5)
theorem wp_appZ {o : Oper} {a : Act} {K : Act → World → Prop} {Q : Exit → Act → World → Prop} (s x : Operand) (t base : Nat) {e : TypeId} {z : Value} {k bytes : Nat}
  (hinfo : (P.info? e).map (fun i => (i.zero, i.size, i.bytes)) = some (some z, k, bytes)) (ht : P.underlying t = some (.slice e)) (hzs : z.cells.size = k) (hk : 0 < k)
  (ho : o.op = .call { callee := .builtin .append, args := #[s, x], argTypes := #[t, t] })
  (N : Nat) (F : Nat → Value)
  {A C : Option Addr} {n c m cm B : Nat} {f g : Nat → Value} (hs : a.eval s = .slice A n c) (hx : a.eval x = .slice C m cm) (hown : OwnZ w base e k A n c f) (hr : Rd w B C (m * k) g) (h1 : ∀ i, i < m * k → (g i).oneCell' = true)
  (hN : N = n + m) (hF : ∀ i, i < N * k → catF (n * k) f g i = F i)
  (hbytes : N ≤ 9223372036854775807 ∧ N * bytes ≤ 140737488355328) (hbase : base ≤ w.heap.size)
  (h : ∀ A' c' w', OwnZ w' base e k A' N c' F → w.grownBy w' (A.map (·.block)) → (∀ ad, A' = some ad → some ad.block = A.map (·.block) ∨ ad.block = w.heap.size) → K (a.put o.dst (.slice A' N c')) w') : o.wp P a w K Q := by
 have hi' : ∃ i, P.info? e = some i ∧ i.zero = some z ∧ i.size = k ∧ i.bytes = bytes := by
  cases hq : P.info? e with
  | none => rw [hq] at hinfo; simp at hinfo
  | some i => rw [hq] at hinfo; simp at hinfo; exact ⟨i, rfl, hinfo.1, hinfo.2.1, hinfo.2.2⟩
 obtain ⟨i, hi, hz, hsize, hby⟩ := hi'
 subst hN
 obtain ⟨A', c', w', hrun, h2, h3, h4⟩ := run_appZ (P := P) w base t o.type e i z k bytes ht hi hz hsize hby hzs hk (cm := cm) hown hr h1 hbytes hbase
 unfold Oper.wp execOp
 simp only [ho, resolve, invoke, builtin, Sem.run_bind, Sem.run_pure, Result.andThen_ok, List.map_toArray, List.map_cons, List.map_nil, hs, hx, hrun]
 exact h A' c' w' (h2.congr hF) h3 h4
/-- append, in a list of operations that don't draw. -/
theorem wpList_appZ {ops : Array Oper} {rest : List Oper} {o : Oper} {a : Act} {Q : Exit → Act → World → Prop} (s x : Operand) (t base : Nat) {e : TypeId} {z : Value} {k bytes : Nat}
  (hinfo : (P.info? e).map (fun i => (i.zero, i.size, i.bytes)) = some (some z, k, bytes)) (ht : P.underlying t = some (.slice e)) (hzs : z.cells.size = k) (hk : 0 < k)
  (hgd : o.guard = none) (ho : o.op = .call { callee := .builtin .append, args := #[s, x], argTypes := #[t, t] })
  (N : Nat) (F : Nat → Value)
  {A C : Option Addr} {n c m cm B : Nat} {f g : Nat → Value} (hs : a.eval s = .slice A n c) (hx : a.eval x = .slice C m cm) (hown : OwnZ w base e k A n c f) (hr : Rd w B C (m * k) g) (h1 : ∀ i, i < m * k → (g i).oneCell' = true)
  (hN : N = n + m) (hF : ∀ i, i < N * k → catF (n * k) f g i = F i)
  (hbytes : N ≤ 9223372036854775807 ∧ N * bytes ≤ 140737488355328) (hbase : base ≤ w.heap.size)
  (h : ∀ A' c' w', OwnZ w' base e k A' N c' F → w.grownBy w' (A.map (·.block)) → (∀ ad, A' = some ad → some ad.block = A.map (·.block) ∨ ad.block = w.heap.size) → wpList P ops Q rest (a.put o.dst (.slice A' N c')) w') :
  wpList P ops Q (o :: rest) a w :=
 wpList_plain hgd fun _ hK => wp_appZ w s x t base hinfo ht hzs hk ho N F hs hx hown hr h1 hN hF hbytes hbase fun A' c' w' h2 h3 h4 => hK _ _ (h A' c' w' h2 h3 h4)
end
end Go.Proofs.YtomilckcgmhfcaaDoor
/- Slices that are written out, of elements of many cells. -/
namespace Go.Proofs.YtomilckcgmhfcaaDoor
set_option maxRecDepth 40000
open Go.RowKit
theorem fold_lay (off : Nat) : ∀ (l : List Value) (k : Nat) (cs : Array Value) (i : Nat), off + k + l.length ≤ cs.size →
  ((l.zipIdx k).foldl (fun cs p => cs.setIfInBounds (off + p.2) p.1) cs)[i]? = if off + k ≤ i ∧ i < off + k + l.length then l[i - (off + k)]? else cs[i]? := by
 intro l
 induction l with
 | nil => intro k cs i _; simp; omega
 | cons a l ih =>
  intro k cs i h
  simp only [List.length_cons] at h
  rw [List.zipIdx_cons, List.foldl_cons, ih (k + 1) _ i (by simp; omega)]
  by_cases h1 : i = off + k
  ·subst h1
   rw [if_neg (by omega), if_pos (by simp)]
   simp [Array.getElem?_setIfInBounds]; omega
  ·by_cases h2 : off + (k + 1) ≤ i ∧ i < off + (k + 1) + l.length
   ·rw [if_pos h2, if_pos (by simp; omega), show i - (off + k) = (i - (off + (k + 1))) + 1 by omega]; simp
   ·rw [if_neg h2, if_neg (by simp; omega)]
    simp [Array.getElem?_setIfInBounds]; omega
theorem fold_size (off : Nat) : ∀ (l : List Value) (k : Nat) (cs : Array Value), ((l.zipIdx k).foldl (fun cs p => cs.setIfInBounds (off + p.2) p.1) cs).size = cs.size := by
 intro l
 induction l with
 | nil => intro k cs; rfl
 | cons a l ih => intro k cs; rw [List.zipIdx_cons, List.foldl_cons, ih (k + 1)]; simp
theorem fill_step (z N i : Nat) (f g : Nat → Value) (rest : List (Nat × Value)) (h : i * z + z ≤ N) :
  Instr.fill (fun i => some (i * z, z)) (arr N g) ((i, .agg (arr z f)) :: rest) = Instr.fill (fun i => some (i * z, z)) (arr N (fun q => if i * z ≤ q ∧ q < i * z + z then f (q - i * z) else g q)) rest := by
 have hc : (Value.agg (arr z f)).cells = arr z f := rfl
 have key : ((arr z f).zipIdx.foldl (fun cs (p : Value × Nat) => cs.setIfInBounds (i * z + p.2) p.1) (arr N g)) = arr N (fun q => if i * z ≤ q ∧ q < i * z + z then f (q - i * z) else g q) := by
  rw [← Array.foldl_toList, Array.toList_zipIdx]
  refine arr_of _ N _ (by rw [fold_size, size_arr]) (fun q hq => ?_)
  rw [fold_lay (i * z) (arr z f).toList 0 (arr N g) q (by simp [size_arr]; omega)]
  have hl : (arr z f).toList.length = z := by simp [size_arr]
  rw [hl]
  by_cases h1 : i * z ≤ q ∧ q < i * z + z
  ·rw [if_pos (by omega), if_pos h1, Array.getElem?_toList, Nat.add_zero, arr_at z f _ (by omega)]
  ·rw [if_neg (by omega), if_neg h1, arr_at N g q hq]
 rw [Instr.fill]
 simp only [hc, size_arr]
 rw [if_neg (by simp; omega)]
 exact congrArg (fun cs => Instr.fill (fun i => some (i * z, z)) cs rest) key
section
variable {P : Program}
theorem run_bsN (w : World) {t e : TypeId} {z len : Nat} (ht : P.underlying t = some (.slice e)) (hz : (P.info? e).map (·.size) = some z) (hlen : len * z ≤ 16777216) (h0 : 0 < len * z) {v0 : Value} (hzero : (P.info? e).bind (·.zero) = some v0) (parts : Array (Nat × Value)) (F : Nat → Value)
  (hf : ∀ g, Instr.fill (fun i => some (i * z, z)) (arr (len * z) g) parts.toList = some (arr (len * z) F)) :
  (Instr.buildSlice t len parts).run P w = .ok (.slice (some ⟨w.heap.size, 0, none⟩) len len) (w.alloc (.cells (arr (len * z) F) e)) := by
 cases hq : P.info? e with
 | none => rw [hq] at hz; simp at hz
 | some i =>
  have hs : i.size = z := by rw [hq] at hz; simpa using hz
  have hv : i.zero = some v0 := by rw [hq] at hzero; simpa using hzero
  have hg : (Array.range (len * z)).map (fun x => v0.cells[x % v0.cells.size]!) = arr (len * z) (fun x => v0.cells[x % v0.cells.size]!) := by
   refine arr_of _ _ _ (by simp) (fun q hq => by simp [hq])
  unfold Instr.buildSlice
  have hf' := hf (fun x => v0.cells[x % v0.cells.size]!)
  rw [← hg] at hf'
  simp only [Sem.run_bind, run_underlying ht, sizeOf_run hz, Result.andThen_ok]
  rw [if_neg (by omega), if_neg (by omega)]
  have hzv : (zeroValue e).run P w = .ok v0 w := by simp [zeroValue, typeInfo, hq, hv, go_sem]
  simp only [Sem.run_bind, hzv, Result.andThen_ok, Sem.run_pure]
  rw [hf']
  simp [newRow, go_sem]
theorem wp_bs1L {o : Oper} {a : Act} {w w0 : World} {K : Act → World → Prop} {Q : Exit → Act → World → Prop} {rows : List RowSpec} {t e : TypeId} {z : Nat} (ht : P.underlying t = some (.slice e)) (hz : (P.info? e).map (·.size) = some z) (hlen : z ≤ 16777216) (h0 : 0 < z) {v0 : Value} (hzero : (P.info? e).bind (·.zero) = some v0)
  (x : Operand) (ho : o.op = .buildSlice t 1 #[(0, x)]) (f : Nat → Value) (hx : a.eval x = .agg (arr z f)) (h : HS w0 w rows)
  (hK : ∀ b w', w0.heap.size ≤ b → w.heap.size ≤ b → HS w0 w' (⟨b, e, z, f⟩ :: rows) → K (a.put o.dst (.slice (some ⟨b, 0, none⟩) 1 1)) w') : o.wp P a w K Q := by
 have hr := run_bsN (P := P) w (t := t) (len := 1) ht hz (by omega) (by omega) hzero #[(0, .agg (arr z f))] f (fun g => by
  rw [show (#[((0 : Nat), Value.agg (arr z f))] : Array (Nat × Value)).toList = [(0, .agg (arr z f))] from rfl, fill_step z (1 * z) 0 f g [] (by omega)]
  show some _ = some _
  exact congrArg some (arr_congr fun i hi => by rw [if_pos (by omega)]; simp))
 rw [Nat.one_mul] at hr
 have hrun : (execOp a.eval o).run P w = .ok (.value (.slice (some ⟨w.heap.size, 0, none⟩) 1 1)) (w.alloc (.cells (arr z f) e)) := by
  unfold execOp
  rw [ho]
  simp only [List.map_toArray, List.map_cons, List.map_nil, hx]
  simp [hr]
 unfold Oper.wp
 rw [hrun]
 exact hK _ _ h.size (Nat.le_refl _) (h.alloc (arr z f) e z f (size_arr _ _) (fun i hi => arr_at _ _ i hi))
/-- []T{x}. -/
theorem wpList_bs1 {ops : Array Oper} {rest : List Oper} {o : Oper} {a : Act} {w w0 : World} {Q : Exit → Act → World → Prop} {rows : List RowSpec} (hgd : o.guard = none) {t e : TypeId} {z : Nat} (ht : P.underlying t = some (.slice e)) (hz : (P.info? e).map (·.size) = some z) (hlen : z ≤ 16777216) (h0 : 0 < z) {v0 : Value} (hzero : (P.info? e).bind (·.zero) = some v0)
  (x : Operand) (ho : o.op = .buildSlice t 1 #[(0, x)]) (f : Nat → Value) (hx : a.eval x = .agg (arr z f)) (h : HS w0 w rows)
  (hK : ∀ b w', w0.heap.size ≤ b → w.heap.size ≤ b → HS w0 w' (⟨b, e, z, f⟩ :: rows) → wpList P ops Q rest (a.put o.dst (.slice (some ⟨b, 0, none⟩) 1 1)) w') : wpList P ops Q (o :: rest) a w :=
 wpList_plain hgd fun _ hK' => by
  have hr := run_bsN (P := P) w (t := t) (len := 1) ht hz (by omega) (by omega) hzero #[(0, .agg (arr z f))] f (fun g => by
   rw [show (#[((0 : Nat), Value.agg (arr z f))] : Array (Nat × Value)).toList = [(0, .agg (arr z f))] from rfl, fill_step z (1 * z) 0 f g [] (by omega)]
   show some _ = some _
   exact congrArg some (arr_congr fun i hi => by rw [if_pos (by omega)]; simp))
  rw [Nat.one_mul] at hr
  have hrun : (execOp a.eval o).run P w = .ok (.value (.slice (some ⟨w.heap.size, 0, none⟩) 1 1)) (w.alloc (.cells (arr z f) e)) := by
   unfold execOp
   rw [ho]
   simp only [List.map_toArray, List.map_cons, List.map_nil, hx]
   simp [hr]
  unfold Oper.wp
  rw [hrun]
  exact hK' _ _ (hK _ _ h.size (Nat.le_refl _) (h.alloc (arr z f) e z f (size_arr _ _) (fun i hi => arr_at _ _ i hi)))
end
end Go.Proofs.YtomilckcgmhfcaaDoor
/- Steps whose guard says yes. -/
namespace Go.Proofs.YtomilckcgmhfcaaDoor
set_option maxRecDepth 40000
open Go.RowKit
section
variable {P : Program}
theorem wpList_asG {ops : Array Oper} {rest : List Oper} {o : Oper} {a : Act} {w : World} {Q : Exit → Act → World → Prop} {j : Nat} {want : Bool} {dd : Tmp} (hg : o.guard = some (j, want)) (hj : (ops[j]?).bind (·.dst) = some dd) (hv : a.tmps[dd]? = some (.bool want)) (d : Tmp) (_hd : o.dst = some d) (v : Value) (h : (execOp a.eval o).run P w = .ok (.value v) w) (hK : wpList P ops Q rest (a.put o.dst v) w) : wpList P ops Q (o :: rest) a w :=
 wpList_guarded hg hj hv fun _ hK' => by
  unfold Oper.wp
  rw [h]
  exact hK' _ _ hK
end
end Go.Proofs.YtomilckcgmhfcaaDoor
/- Comparisons of bools and numbers in a region shown operation by operation. -/
namespace Go.Proofs.YtomilckcgmhfcaaDoor
set_option maxRecDepth 40000
open Go.RowKit
section
variable {P : Program} {ops : Array Oper} {B : Nat} {w0 : World} {o : Oper} {lk : Tmp → SF} {ty rt : TypeId}
theorem opOb_neSame {xo yo : Operand} (k : IntKind) (x : Int) (hg : o.guard = none) (hop : o.op = .binOp .neq ty xo yo rt) (hx : OpK lk xo (.int k x)) (hy : OpK lk yo (.int k x)) : opOb P ops B w0 o (SF.is (.bool false)) lk :=
 opOb_val _ hg fun a w _ hf => by
  have h1 := hx.eval hf (by rw [hop]; simp [Op.operands])
  have h2 := hy.eval hf (by rw [hop]; simp [Op.operands])
  unfold execOp
  rw [hop]
  simp only [h1, h2]
  simp [eqGuard, go_sem]
end
end Go.Proofs.YtomilckcgmhfcaaDoor
/- In drawn regions: slices of elements of many cells, and where an element lies. -/
namespace Go.Proofs.YtomilckcgmhfcaaDoor
set_option maxRecDepth 40000
open Go.RowKit
/-- A slice of n elements of z cells that reads as f. -/
def SF.rdZ (n z : Nat) (f : Nat → Value) : SF := ⟨fun v w => ∃ A c, v = .slice A n c ∧ Rd w w.heap.size A (n * z) f, fun _ _ _ ⟨A, c, e, h⟩ hb => ⟨A, c, e, (h.below hb).more hb.size⟩⟩
theorem add_add (ad : Addr) (m n : Nat) : (ad.add m).add n = ad.add (m + n) := by
 unfold Addr.add
 by_cases hm : m = 0
 ·subst hm; simp
 ·by_cases hn : n = 0
  ·subst hn; simp [hm]
  ·simp [hm, hn, Nat.add_assoc]
section
variable {P : Program} {ops : Array Oper} {B : Nat} {w0 : World} {o : Oper} {lk : Tmp → SF} {ty : TypeId}
theorem run_idxZ (w : World) {t e : TypeId} {z n c k : Nat} (hu : P.underlying t = some (.slice e)) (hz : (P.info? e).map (·.size) = some z) (ad : Addr) (hk : k < n) : (Instr.indexAt t (.slice (some ad) n c) (.int .i64 (k : Int))).run P w = .ok (.pointer (some (ad.add (k * z)))) w := by
 unfold Instr.indexAt
 simp [run_underlying hu, sizeOf_run hz, go_sem, asIntOf, hk]
end
end Go.Proofs.YtomilckcgmhfcaaDoor
/- A region that draws its order, walked by hand: what yields its value in whatever world comes first, then the rest in the one order that is left. -/
namespace Go.Proofs.YtomilckcgmhfcaaDoor
set_option maxRecDepth 40000
open Go.RowKit
section
variable {P : Program} {ops : Array Oper} {Q : Exit → Act → World → Prop} {md : Region.Mode}
theorem ord_enter {n id : Nat} {a : Act} {w : World} (hm : P.follows .mixedOrders = true) (hn : ops.size = n) (h : wpAny P .any ops Q n (Array.replicate n false) a w.drew) : (Code.region id ops true).wp P Q a w := by
 subst hn
 exact wp_region_any hm h
/-- The one operation that is ready. -/
theorem ord_step {i fuel : Nat} {o : Oper} {listed : Array Bool} {a : Act} {w : World} (hi : ops.toList[i]? = some o) (hr : Region.ready md ops listed = [i]) (hg : o.guard = none)
  (h : ∀ K : Act → World → Prop, (∀ a w, wpAny P md ops Q fuel (listed.setIfInBounds i true) a w → K a w) → o.wp P a w K Q) : wpAny P md ops Q (fuel + 1) listed a w :=
 wpAny_ready (rs := [i]) hr (by simp) (AllReady.cons (by rw [← Array.getElem?_toList]; exact hi) (fun K hK => by rw [if_pos (by simp [Region.wanted, hg])]; exact h K hK) AllReady.nil)
theorem ord_take {i fuel : Nat} {o : Oper} (v : Value) {listed : Array Bool} {a : Act} {w : World} (hi : ops.toList[i]? = some o) (hs : Region.noSelect ops = true) (hf : Region.free md ops listed i = true) (hr : (Region.ready md ops listed).contains i = true) (hg : o.guard = none)
  (hQ : ∀ c a w, Q (.panic c) (a.put o.dst v) w → Q (.panic c) a w) (hy : ∀ w, (execOp a.eval o).run P w = .ok (.value v) w)
  (h : wpAny P md ops Q fuel (listed.setIfInBounds i true) (a.put o.dst v) w) : wpAny P md ops Q (fuel + 1) listed a w :=
 wpAny_take (by rw [← Array.getElem?_toList]; exact hi) hs hf hr hQ (Or.inl ⟨by simp [Region.wanted, hg], hy⟩) h
variable {o : Oper} {a : Act}
theorem ex_move {x : Operand} {v : Value} (ho : o.op = .move x ∨ o.op = .assign x) (hx : a.eval x = v) : ∀ w, (execOp a.eval o).run P w = .ok (.value v) w := fun w => by
 unfold execOp
 rcases ho with ho | ho <;> (rw [ho]; simp only [hx]; simp)
theorem ex_slice {t : TypeId} {x : Operand} {lo hi : Option Operand} {v sv : Value} {l h : Option Value} (ho : o.op = .slice t x lo hi none) (hx : a.eval x = v) (hl : lo.map a.eval = l) (hh : hi.map a.eval = h) (hr : ∀ w, (Instr.sliceAt t v l h none).run P w = .ok sv w) : ∀ w, (execOp a.eval o).run P w = .ok (.value sv) w := fun w => by
 unfold execOp
 rw [ho]
 simp only [hx]
 rw [show lo.map (fun y => a.eval y) = l from hl, show hi.map (fun y => a.eval y) = h from hh]
 simp [hr w]
theorem ex_idx {t : TypeId} {x i : Operand} {v u p : Value} (ho : o.op = .indexAddr t x i) (hx : a.eval x = v) (hi : a.eval i = u) (hr : ∀ w, (Instr.indexAt t v u).run P w = .ok p w) : ∀ w, (execOp a.eval o).run P w = .ok (.value p) w := fun w => by
 unfold execOp
 rw [ho]
 simp only [hx, hi]
 simp [hr w]
theorem ex_fld {t : TypeId} {x : Operand} {k : Nat} {v p : Value} (ho : o.op = .fieldAddr t x k) (hx : a.eval x = v) (hr : ∀ w, (Instr.fieldAt t v k).run P w = .ok p w) : ∀ w, (execOp a.eval o).run P w = .ok (.value p) w := fun w => by
 unfold execOp
 rw [ho]
 simp only [hx]
 simp [hr w]
theorem ex_nil {x : Operand} {ad : Addr} (ho : o.op = .nilCheck x) (hx : a.eval x = .pointer (some ad)) : ∀ w, (execOp a.eval o).run P w = .ok (.value (.pointer (some ad))) w := fun w => by
 unfold execOp
 rw [ho]
 simp only [hx]
 simp [go_sem]
end
end Go.Proofs.YtomilckcgmhfcaaDoor
/- Is a root in a list? (Printed by a program of mine.) -/
namespace Go.Proofs.YtomilckcgmhfcaaDoor
set_option maxRecDepth 40000
open Go.RowKit
theorem Rd.cells {w : World} {B n : Nat} {ad : Addr} {f : Nat → Value} (h : Rd w B (some ad) n f) {i : Nat} (hi : i < n) : w.cell? (ad.add i) = some (f i) := by
 obtain ⟨ad', e, _, hc⟩ := h (by omega)
 injection e with e; subst e
 exact hc i hi
namespace SignGood
end SignGood
end Go.Proofs.YtomilckcgmhfcaaDoor
/- Zero roots and depths, by the reference. -/
namespace Go.Proofs.YtomilckcgmhfcaaDoor
set_option maxRecDepth 40000
open Go.RowKit
/-- The least d with l ≤ 2^d. -/
def dep (l : Nat) : Nat := if l ≤ 1 then 0 else Nat.log2 (l - 1) + 1
theorem dep_ge (l : Nat) : l ≤ 2 ^ dep l := by
 unfold dep
 by_cases h : l ≤ 1
 ·rw [if_pos h]; simpa using h
 ·rw [if_neg h]
  have := Nat.lt_log2_self (n := l - 1)
  omega
theorem dep_lt {l e : Nat} (h : e < dep l) : 2 ^ e < l := by
 unfold dep at h
 by_cases h1 : l ≤ 1
 ·rw [if_pos h1] at h; omega
 ·rw [if_neg h1] at h
  have h2 := Nat.log2_self_le (n := l - 1) (by omega)
  have h3 : 2 ^ e ≤ 2 ^ Nat.log2 (l - 1) := Nat.pow_le_pow_right (by omega) (by omega)
  omega
theorem dep_le {l k : Nat} (h : l ≤ 2 ^ k) : dep l ≤ k := by
 rcases Nat.lt_or_ge k (dep l) with h1 | h1
 ·have := dep_lt h1; omega
 ·exact h1
/-- The zero root of depth k. -/
def zrN : Nat → Nat → Nat
 | 0 => fun _ => 0
 | k + 1 => shaB (catN 32 (zrN k) (zrN k)) 64
theorem zrN_lt (k : Nat) : ∀ i, zrN k i < 256 := by
 cases k with
 | zero => intro i; show 0 < 256; omega
 | succ k => exact fun i => shaB_lt _ _ i
/-- The list of zero roots. -/
def zrL : Nat → Nat := fun i => zrN (i / 32) (i % 32)
theorem zrL_at (k q : Nat) (hq : q < 32) : zrL (k * 32 + q) = zrN k q := by
 unfold zrL
 rw [show (k * 32 + q) / 32 = k by omega, show (k * 32 + q) % 32 = q by omega]
namespace TreeRef
theorem cvu (m : Nat) (hm : m < 9223372036854775808) (w : World) : (convert 3 133 (.int .i64 (m:Int))).run Tryd.prog w = .ok (.int .u64 (m:Int)) w := by
 simp [go_sem, IntKind.wrap, IntKind.bits, IntKind.signed]; omega
end TreeRef
theorem ex_bin {P : Program} {o : Oper} {a : Act} {b : BinOp} {ty rt : TypeId} {x y : Operand} {u v r : Value} (hne : (b matches .eql | .neq) = false) (ho : o.op = .binOp b ty x y rt) (hx : a.eval x = u) (hy : a.eval y = v) (hr : ∀ w, (binOp b ty u v).run P w = .ok r w) : ∀ w, (execOp a.eval o).run P w = .ok (.value r) w := fun w => by
 unfold execOp
 rw [ho]
 simp only [hx, hy]
 cases b <;> simp at hne <;> simp [eqGuard, hr]
theorem ex_cnv {P : Program} {o : Oper} {a : Act} {s d : TypeId} {x : Operand} {u r : Value} (ho : o.op = .convert s d x) (hx : a.eval x = u) (hr : ∀ w, (convert s d u).run P w = .ok r w) : ∀ w, (execOp a.eval o).run P w = .ok (.value r) w := fun w => by
 unfold execOp
 rw [ho]
 simp only [hx]
 simp [hr w]
end Go.Proofs.YtomilckcgmhfcaaDoor
/- Copies of lists whose elements have many cells. -/
namespace Go.Proofs.YtomilckcgmhfcaaDoor
set_option maxRecDepth 40000
open Go.RowKit
theorem OwnZ.new0 (w : World) (base : Nat) (e : TypeId) (z : Nat) (f : Nat → Value) (hb : base ≤ w.heap.size) : OwnZ (w.alloc (.cells #[] e)) base e z (some ⟨w.heap.size, 0, none⟩) 0 0 f :=
 ⟨by simp, .inr ⟨w.heap.size, 0, #[], rfl, hb, heap_alloc_new w _, Nat.le_refl _, Nat.zero_le _, by simp, by simp⟩⟩
section
variable {P : Program} (w : World)
theorem app0Z_eq {t ty e : TypeId} {i : TypeInfo} {z : Value} {k : Nat} (ht : P.underlying t = some (.slice e)) (hi : P.info? e = some i) (hz : i.zero = some z) (hsize : i.size = k) (hk : 0 < k)
  (b a : Addr) (m cm B : Nat) (g : Nat → Value) (hr : Rd w B (some a) (m * k) g) (hm : 0 < m) (hbytes : m ≤ 9223372036854775807 ∧ m * i.bytes ≤ 140737488355328) :
  (Builtin.append_ #[t, t] ty #[.slice (some b) 0 0, .slice (some a) m cm]).run P w = (Builtin.append_ #[t, t] ty #[.slice none 0 0, .slice (some a) m cm]).run P w := by
 have hmk : 0 < m * k := Nat.mul_pos hm hk
 have hnews : ∀ j v, ((List.range (m * k)).map g)[j]? = some v → w.cell? (a.add j) = some v := fun j v hj => by
  have hjl : j < m * k := by
   rcases Nat.lt_or_ge j (m * k) with h | h
   ·exact h
   ·simp [h] at hj
  rw [hr.cell_ hjl]
  simp [hjl] at hj
  exact congrArg some hj
 have h1 := run_append_nil (P := P) w t ty e i z ht hi hz a m cm ((List.range (m * k)).map g) (by simp [hsize]) hnews hm (by omega) (by omega)
 have h2 := run_append_grow (P := P) w t ty e i z ht hi hz b 0 0 [] (by simp) (fun j v hj => by simp at hj) a m cm ((List.range (m * k)).map g) (by simp [hsize]) hnews (by omega) (by omega) (growslice_fits (by omega) (by rw [Nat.zero_add]; exact hbytes.2))
 rw [h1, h2]
 simp
theorem run_app0Z (base : Nat) {t ty e : TypeId} {i : TypeInfo} {z : Value} {k bytes : Nat} (ht : P.underlying t = some (.slice e)) (hi : P.info? e = some i) (hz : i.zero = some z)
  (hsize : i.size = k) (hk : 0 < k) (hby : i.bytes = bytes) (hzs : z.cells.size = k) {b : Addr} {f g : Nat → Value} (hown : OwnZ w base e k (some b) 0 0 f)
  {C : Option Addr} {m cm B : Nat} (hr : Rd w B C (m * k) g) (h1 : ∀ i, i < m * k → (g i).oneCell' = true) (hbytes : m ≤ 9223372036854775807 ∧ m * bytes ≤ 140737488355328) (hbase : base ≤ w.heap.size) :
  ∃ A' c' w', (Builtin.append_ #[t, t] ty #[.slice (some b) 0 0, .slice C m cm]).run P w = .ok (.slice A' m c') w' ∧ OwnZ w' base e k A' m c' g ∧ Below w.heap.size w w' := by
 by_cases hm : m = 0
 ·subst hm
  have hrun : (Builtin.append_ #[t, t] ty #[.slice (some b) 0 0, .slice C 0 cm]).run P w = .ok (.slice (some b) 0 0) w := by
   rcases C with _ | ad <;> simp [Builtin.append_, run_underlying ht, sizeOf, typeInfo, hi, Builtin.lenOf, Builtin.firstCells, storeCells, loadCells, loadCellsFrom]
  exact ⟨_, _, _, hrun, hown.congr (fun i hi => absurd hi (by omega)), Below.refl _ _⟩
 ·obtain ⟨ad, rfl, _⟩ := hr (Nat.mul_pos (by omega) hk)
  obtain ⟨A', c', w', h2, h3, h4, _⟩ := run_appZ (P := P) w base t ty e i z k bytes ht hi hz hsize hby hzs hk (cm := cm) (OwnZ.nil w base e k g) hr h1 (by rw [Nat.zero_add]; exact hbytes) hbase
  refine ⟨A', c', w', ?_, ?_, ⟨h4.os, h4.tape, h4.output, h4.size, fun k hk => h4.block k hk (by simp)⟩⟩
  ·rw [app0Z_eq w ht hi hz hsize hk b ad m cm B g hr (by omega) (by rw [hby]; exact hbytes), h2, Nat.zero_add]
  ·rw [Nat.zero_add] at h3
   exact h3.congr (fun i _ => by simp [catF])
theorem infoZ {e : TypeId} {z : Value} {k bytes : Nat} (hinfo : (P.info? e).map (fun i => (i.zero, i.size, i.bytes)) = some (some z, k, bytes)) : ∃ i, P.info? e = some i ∧ i.zero = some z ∧ i.size = k ∧ i.bytes = bytes := by
 cases hq : P.info? e with
 | none => rw [hq] at hinfo; simp at hinfo
 | some i => rw [hq] at hinfo; simp at hinfo; exact ⟨i, rfl, hinfo.1, hinfo.2.1, hinfo.2.2⟩
/-- append([]T{}, x...), two operations of a list. -/
theorem wpList_bs0L {ops : Array Oper} {rest : List Oper} {o : Oper} {a : Act} {w w0 : World} {Q : Exit → Act → World → Prop} {rows : List RowSpec} (hgd : o.guard = none) {t e : TypeId} (z : Nat) (ho : o.op = .buildSlice t 0 #[]) (hr : ∀ w : World, (Instr.buildSlice t 0 #[]).run P w = .ok (.slice (some ⟨w.heap.size, 0, none⟩) 0 0) (w.alloc (.cells #[] e))) (h : HS w0 w rows)
  (hK : ∀ b w', w0.heap.size ≤ b → HS w0 w' rows → OwnZ w' w.heap.size e z (some ⟨b, 0, none⟩) 0 0 (fun _ => undef) → wpList P ops Q rest (a.put o.dst (.slice (some ⟨b, 0, none⟩) 0 0)) w') : wpList P ops Q (o :: rest) a w :=
 wpList_plain hgd fun _ hK' => by
  unfold Oper.wp execOp
  rw [ho]
  simp only [List.map_toArray, List.map_nil, Sem.run_bind, hr w, Result.andThen_ok, Sem.run_pure]
  exact hK' _ _ (hK _ _ h.size (h.below ((Below.refl _ _).alloc (Nat.le_refl _) _)) (OwnZ.new0 w w.heap.size e z _ (Nat.le_refl _)))
theorem wpList_app0L {ops : Array Oper} {rest : List Oper} {o : Oper} {a : Act} {w w0 : World} {Q : Exit → Act → World → Prop} {rows : List RowSpec} (hgd : o.guard = none) (s x : Operand) (t base : Nat) {e : TypeId} {z : Value} {k bytes : Nat}
  (hinfo : (P.info? e).map (fun i => (i.zero, i.size, i.bytes)) = some (some z, k, bytes)) (ht : P.underlying t = some (.slice e)) (hzs : z.cells.size = k) (hk : 0 < k)
  (ho : o.op = .call { callee := .builtin .append, args := #[s, x], argTypes := #[t, t] }) {b : Addr} {f : Nat → Value} (hs : a.eval s = .slice (some b) 0 0) (hown : OwnZ w base e k (some b) 0 0 f)
  {C : Option Addr} {m cm B : Nat} {g : Nat → Value} (hx : a.eval x = .slice C m cm) (hr : Rd w B C (m * k) g) (h1 : ∀ i, i < m * k → (g i).oneCell' = true) (hbytes : m ≤ 9223372036854775807 ∧ m * bytes ≤ 140737488355328) (hbase : base ≤ w.heap.size) (h : HS w0 w rows)
  (hK : ∀ A' c' w', OwnZ w' base e k A' m c' g → HS w0 w' rows → wpList P ops Q rest (a.put o.dst (.slice A' m c')) w') : wpList P ops Q (o :: rest) a w :=
 wpList_plain hgd fun _ hK' => by
  obtain ⟨i, hi, hz, hsize, hby⟩ := infoZ hinfo
  obtain ⟨A', c', w', hrun, h5, h6⟩ := run_app0Z (P := P) w base (ty := o.type) ht hi hz hsize hk hby hzs (cm := cm) hown hr h1 hbytes hbase
  unfold Oper.wp execOp
  simp only [ho, resolve, invoke, builtin, Sem.run_bind, Sem.run_pure, Result.andThen_ok, List.map_toArray, List.map_cons, List.map_nil, hs, hx]
  rw [hrun]
  exact hK' _ _ (hK _ _ _ h5 (h.below h6))
end
section
variable {P : Program} {ops : Array Oper} {B : Nat} {w0 : World} {o : Oper} {lk : Tmp → SF} {ty rt : TypeId}
/-- []T{x}. -/
theorem opOb_bs1Z {t e : TypeId} {z : Nat} (ht : P.underlying t = some (.slice e)) (hz : (P.info? e).map (·.size) = some z) (hlen : z ≤ 16777216) (h0 : 0 < z) {v0 : Value} (hzero : (P.info? e).bind (·.zero) = some v0)
  {x : Operand} (hg : o.guard = none) (hop : o.op = .buildSlice t 1 #[(0, x)]) (f : Nat → Value) (hx : OpK lk x (.agg (arr z f))) : opOb P ops B w0 o (SF.rdZ 1 z f) lk :=
 opOb_of hg fun a w hbel hf => by
  have h1 := hx.eval hf (by rw [hop]; simp [Op.operands])
  have hr := run_bsN (P := P) w (t := t) (len := 1) ht hz (by omega) (by omega) hzero #[(0, .agg (arr z f))] f (fun g => by
   rw [show (#[((0 : Nat), Value.agg (arr z f))] : Array (Nat × Value)).toList = [(0, .agg (arr z f))] from rfl, fill_step z (1 * z) 0 f g [] (by omega)]
   show some _ = some _
   exact congrArg some (arr_congr fun i hi => by rw [if_pos (by omega)]; simp))
  rw [Nat.one_mul] at hr
  have hrun : (execOp a.eval o).run P w = .ok (.value (.slice (some ⟨w.heap.size, 0, none⟩) 1 1)) (w.alloc (.cells (arr z f) e)) := by
   unfold execOp
   rw [hop]
   simp only [List.map_toArray, List.map_cons, List.map_nil, h1]
   simp [hr]
  have h2 := (HS.nil w).alloc (arr z f) e z f (size_arr _ _) (fun i hi => arr_at _ _ i hi)
  unfold Oper.wp
  rw [hrun]
  exact ⟨_, rfl, ⟨_, _, rfl, by rw [Nat.one_mul]; exact Rd.of_row (h2.row 0 rfl) (Nat.le_refl _) (h2.lt 0 rfl)⟩, h2.out (by simp)⟩
end
end Go.Proofs.YtomilckcgmhfcaaDoor
/- Parts of slices whose elements have many cells. -/
namespace Go.Proofs.YtomilckcgmhfcaaDoor
set_option maxRecDepth 40000
open Go.RowKit
section
variable {P : Program}
theorem cut_toZ {t e : TypeId} {z : Nat} (hu : P.underlying t = some (.slice e)) (hz : (P.info? e).map (·.size) = some z) (A : Option Addr) (n c h : Nat) (hh : h ≤ c) (w : World) :
  (Instr.sliceAt t (.slice A n c) none (some (.int .i64 (h : Int))) none).run P w = .ok (.slice A h c) w := by
 have b2 : (Instr.sliceBound (.int .i64 (h : Int)) c .sliceAcap).run P w = .ok h w := by
  rw [run_sliceBound w .i64 (h : Int) c _ (by omega) (by omega)]; simp
 simp [Instr.sliceAt, Instr.slice, run_underlying hu, Instr.sliceBounds, b2, sizeOf_run hz, add_zero']
end
end Go.Proofs.YtomilckcgmhfcaaDoor
/- The root of a tree of chunks, by the reference. (Printed by a program of mine.) -/
namespace Go.Proofs.YtomilckcgmhfcaaDoor
set_option maxRecDepth 40000
open Go.RowKit
/-- The root of n chunks in a tree of depth d. -/
def treeN : Nat → Nat → (Nat → Nat) → Nat → Nat
 | 0, n, x => if n = 0 then zrN 0 else x
 | d + 1, n, x => if n = 0 then zrN (d + 1) else shaB (catN 32 (treeN d (min (2 ^ d) n) x) (treeN d (n - min (2 ^ d) n) (fun i => x (min (2 ^ d) n * 32 + i)))) 64
theorem treeN_lt {x : Nat → Nat} (hx : ∀ i, x i < 256) (d n : Nat) : ∀ i, treeN d n x i < 256 := by
 intro i
 cases d with
 | zero => unfold treeN; split; exact zrN_lt _ _; exact hx _
 | succ d => unfold treeN; split; exact zrN_lt _ _; exact shaB_lt _ _ _
theorem treeN_zero (d : Nat) (x : Nat → Nat) : treeN d 0 x = zrN d := by cases d <;> rfl
theorem treeN_succ (d n h : Nat) (x : Nat → Nat) (hn : n ≠ 0) (hh : min (2 ^ d) n = h) : treeN (d + 1) n x = shaB (catN 32 (treeN d h x) (treeN d (n - h) (fun i => x (h * 32 + i)))) 64 := by
 subst hh
 rw [treeN, if_neg hn]
namespace TreeTree
end TreeTree
end Go.Proofs.YtomilckcgmhfcaaDoor
/- A tree's root, level by level. -/
namespace Go.Proofs.YtomilckcgmhfcaaDoor
set_option maxRecDepth 40000
/-- The root of 2^d chunks. -/
def fullN : Nat → (Nat → Nat) → Nat → Nat
 | 0, x => x
 | d + 1, x => shaB (catN 32 (fullN d x) (fullN d (fun i => x (2 ^ d * 32 + i)))) 64
theorem full_succ (d : Nat) (x : Nat → Nat) : fullN (d + 1) x = shaB (catN 32 (fullN d x) (fullN d (fun i => x (2 ^ d * 32 + i)))) 64 := rfl
/-- The level above: two by two. -/
def lvl (x : Nat → Nat) : Nat → Nat := fun i => shaB (catN 32 (fun q => x (2 * (i / 32) * 32 + q)) (fun q => x ((2 * (i / 32) + 1) * 32 + q))) 64 (i % 32)
theorem two_congr {a b c d : Nat → Nat} (h1 : ∀ i, i < 32 → a i = c i) (h2 : ∀ i, i < 32 → b i = d i) : shaB (catN 32 a b) 64 = shaB (catN 32 c d) 64 := shaB_congr fun i hi => by
 unfold catN
 by_cases h : i < 32
 ·rw [if_pos h, if_pos h, h1 i h]
 ·rw [if_neg h, if_neg h, h2 _ (by omega)]
theorem fullN_congr : ∀ (d : Nat) (x y : Nat → Nat), (∀ i, i < 2 ^ d * 32 → x i = y i) → ∀ i, i < 32 → fullN d x i = fullN d y i := by
 intro d
 induction d with
 | zero => intro x y h i hi; exact h i (by simpa using hi)
 | succ d ih =>
  intro x y h i _
  have hp : 2 ^ (d + 1) = 2 * 2 ^ d := by rw [Nat.pow_succ]; omega
  rw [full_succ d x, full_succ d y]
  rw [two_congr (ih x y (fun i hi => h i (by omega))) (ih _ _ (fun i hi => h (2 ^ d * 32 + i) (by omega)))]
theorem fullN_lvl : ∀ (d : Nat) (x : Nat → Nat) (i : Nat), i < 32 → fullN (d + 1) x i = fullN d (lvl x) i := by
 intro d
 induction d with
 | zero =>
  intro x i hi
  have e : shaB (catN 32 x (fun i => x (2 ^ 0 * 32 + i))) 64 = shaB (catN 32 (fun q => x (2 * (i / 32) * 32 + q)) (fun q => x ((2 * (i / 32) + 1) * 32 + q))) 64 :=
   two_congr (fun q _ => congrArg x (by omega)) (fun q _ => congrArg x (by omega))
  exact (congrFun e i).trans (congrArg _ (show i = i % 32 by omega))
 | succ d ih =>
  intro x i hi
  rw [full_succ (d + 1) x, full_succ d (lvl x)]
  rw [two_congr (ih x) (ih (fun i => x (2 ^ (d + 1) * 32 + i)))]
  rw [two_congr (fun i _ => rfl) (fullN_congr d (lvl (fun i => x (2 ^ (d + 1) * 32 + i))) (fun i => lvl x (2 ^ d * 32 + i)) (fun j _ => by
   have hp : 2 ^ (d + 1) = 2 * 2 ^ d := by rw [Nat.pow_succ]; omega
   unfold lvl
   rw [show (2 ^ d * 32 + j) / 32 = 2 ^ d + j / 32 by omega, show (2 ^ d * 32 + j) % 32 = j % 32 by omega]
   rw [two_congr (c := fun q => x (2 * (2 ^ d + j / 32) * 32 + q)) (d := fun q => x ((2 * (2 ^ d + j / 32) + 1) * 32 + q)) (fun q _ => congrArg x (by rw [hp]; omega)) (fun q _ => congrArg x (by rw [hp]; omega))]))]
theorem zr_full : ∀ (d : Nat) (i : Nat), i < 32 → zrN d i = fullN d (fun _ => 0) i := by
 intro d
 induction d with
 | zero => intro i _; rfl
 | succ d ih => intro i _; rw [full_succ]; unfold zrN; rw [two_congr ih ih]
theorem tree_full : ∀ (d n : Nat) (x : Nat → Nat), n ≤ 2 ^ d → ∀ i, i < 32 → treeN d n x i = fullN d (padN (n * 32) x) i := by
 intro d
 induction d with
 | zero =>
  intro n x hn i hi
  unfold treeN fullN padN
  by_cases h : n = 0
  ·subst h; rw [if_pos rfl, if_neg (by omega)]; rfl
  ·rw [if_neg h, if_pos (by omega)]
 | succ d ih =>
  intro n x hn i hi
  have hp : 2 ^ (d + 1) = 2 * 2 ^ d := by rw [Nat.pow_succ]; omega
  by_cases h : n = 0
  ·subst h
   rw [treeN_zero, zr_full _ i hi]
   refine fullN_congr _ _ _ (fun j _ => ?_) i hi
   unfold padN; rw [if_neg (by omega)]
  ·obtain ⟨m, hm⟩ : ∃ m, min (2 ^ d) n = m := ⟨_, rfl⟩
   rw [treeN_succ d n m x h hm, full_succ]
   rw [two_congr (ih m x (by omega)) (ih (n - m) _ (by omega))]
   rw [two_congr (c := fullN d (padN (n * 32) x)) (d := fullN d (fun i => padN (n * 32) x (2 ^ d * 32 + i))) (fullN_congr d _ _ (fun j hj => ?_)) (fullN_congr d _ _ (fun j hj => ?_))]
   ·unfold padN
    by_cases h1 : j < m * 32
    ·rw [if_pos h1, if_pos (by omega)]
    ·rw [if_neg h1, if_neg (by omega)]
   ·unfold padN
    by_cases h1 : j < (n - m) * 32
    ·rw [if_pos h1, if_pos (by omega), show m = 2 ^ d by omega]
    ·rw [if_neg h1, if_neg (by omega)]
end Go.Proofs.YtomilckcgmhfcaaDoor
