/- A part of what the proofs stand on: Lev, Grow, MakeL, StorePart, MerkleFn, MerkleUp, MerkleTree, ShufFn. -/
import Derived.Test.YtomilckcgmhfcaaDoorGLiv7
import Derived.Laws.MakeOwn
import Derived.Laws.CopyRow
import Derived.Test.YtomilckcgmhfcaaDoorGLiv1
import Derived.Test.YtomilckcgmhfcaaDoorGLiv6
import Derived.Lib.ItoaNum
/- A tree, level by level: what each level holds; branches, and where they lead. -/
namespace Go.Proofs.YtomilckcgmhfcaaDoor
set_option maxRecDepth 40000
/-- Level d over these chunks. -/
def levN : Nat → (Nat → Nat) → Nat → Nat
 | 0, x => x
 | d + 1, x => levN d (lvl x)
theorem levN_succ : ∀ (d : Nat) (x : Nat → Nat), levN (d + 1) x = lvl (levN d x) := by
 intro d
 induction d with
 | zero => intro x; rfl
 | succ d ih => intro x; exact ih (lvl x)
theorem full_lev : ∀ (d : Nat) (x : Nat → Nat) (i : Nat), i < 32 → fullN d x i = levN d x i := by
 intro d
 induction d with
 | zero => intro x i _; rfl
 | succ d ih => intro x i hi; rw [fullN_lvl d x i hi]; exact ih (lvl x) i hi
theorem lvl_shift (x : Nat → Nat) (m i : Nat) : lvl (fun j => x (2 * m * 32 + j)) i = lvl x (m * 32 + i) := by
 unfold lvl
 rw [show (m * 32 + i) / 32 = m + i / 32 by omega, show (m * 32 + i) % 32 = i % 32 by omega]
 rw [two_congr (c := fun q => x (2 * (m + i / 32) * 32 + q)) (d := fun q => x ((2 * (m + i / 32) + 1) * 32 + q)) (fun q _ => congrArg x (by omega)) (fun q _ => congrArg x (by omega))]
theorem full_lev_at : ∀ (d k : Nat) (x : Nat → Nat) (q : Nat), q < 32 → fullN d (fun i => x (k * 2 ^ d * 32 + i)) q = levN d x (k * 32 + q) := by
 intro d
 induction d with
 | zero => intro k x q _; exact congrArg x (by simp)
 | succ d ih =>
  intro k x q hq
  rw [fullN_lvl d _ q hq, levN, ← ih k (lvl x) q hq]
  refine fullN_congr d _ _ (fun i _ => ?_) q hq
  have hp : k * 2 ^ (d + 1) = 2 * (k * 2 ^ d) := by rw [Nat.pow_succ]; rw [Nat.mul_comm 2, Nat.mul_assoc]
  rw [hp]
  exact lvl_shift x (k * 2 ^ d) i
/-- Where no chunks are any more, a level holds the zero root. -/
theorem lev_zero (d k n : Nat) (x : Nat → Nat) (h : n ≤ k * 2 ^ d) (q : Nat) (hq : q < 32) : levN d (padN (n * 32) x) (k * 32 + q) = zrN d q := by
 rw [← full_lev_at d k _ q hq, zr_full d q hq]
 refine fullN_congr d _ _ (fun i _ => ?_) q hq
 unfold padN
 have := Nat.mul_le_mul_right 32 h
 rw [if_neg (by omega)]
/-- How many chunks a level has. -/
def cnt : Nat → Nat → Nat
 | 0, n => n
 | d + 1, n => (cnt d n + 1) / 2
theorem cnt_ge : ∀ (d n : Nat), n ≤ cnt d n * 2 ^ d := by
 intro d
 induction d with
 | zero => intro n; simp [cnt]
 | succ d ih =>
  intro n
  have h := ih n
  have h2 : cnt d n ≤ 2 * ((cnt d n + 1) / 2) := by omega
  have h3 := Nat.mul_le_mul_right (2 ^ d) h2
  rw [cnt, Nat.pow_succ]
  have e : (cnt d n + 1) / 2 * (2 ^ d * 2) = 2 * ((cnt d n + 1) / 2) * 2 ^ d := by rw [Nat.mul_comm (2 ^ d) 2, ← Nat.mul_assoc, Nat.mul_comm _ 2]
  rw [e]; omega
theorem cnt_lt : ∀ (d n : Nat), cnt d n * 2 ^ d < n + 2 ^ d := by
 intro d
 induction d with
 | zero => intro n; simp [cnt]
 | succ d ih =>
  intro n
  have h := ih n
  have h2 : 2 * ((cnt d n + 1) / 2) ≤ cnt d n + 1 := by omega
  have h3 := Nat.mul_le_mul_right (2 ^ d) h2
  rw [cnt, Nat.pow_succ]
  have e : (cnt d n + 1) / 2 * (2 ^ d * 2) = 2 * ((cnt d n + 1) / 2) * 2 ^ d := by rw [Nat.mul_comm (2 ^ d) 2, ← Nat.mul_assoc, Nat.mul_comm _ 2]
  rw [Nat.add_mul] at h3
  rw [e]; omega
theorem cnt_pos : ∀ (d n : Nat), 1 ≤ n → 1 ≤ cnt d n := by
 intro d
 induction d with
 | zero => intro n h; exact h
 | succ d ih => intro n h; have := ih n h; rw [cnt]; omega
theorem cnt_one (d n : Nat) (h1 : 1 ≤ n) (h : n ≤ 2 ^ d) : cnt d n = 1 := by
 have h2 := cnt_lt d n
 have h3 := cnt_pos d n h1
 have h4 : cnt d n < 2 := by
  rcases Nat.lt_or_ge (cnt d n) 2 with h5 | h5
  ·exact h5
  ·have := Nat.mul_le_mul_right (2 ^ d) h5; omega
 omega
theorem cnt_le : ∀ (d n : Nat), cnt d n ≤ n := by
 intro d
 induction d with
 | zero => intro n; exact Nat.le_refl _
 | succ d ih => intro n; have := ih n; rw [cnt]; omega
theorem lvl_congr {x y : Nat → Nat} {M : Nat} (h : ∀ i, i < 2 * M * 32 → x i = y i) : ∀ i, i < M * 32 → lvl x i = lvl y i := fun i hi => by
 unfold lvl
 rw [two_congr (fun q hq => h _ (by omega)) (fun q hq => h _ (by omega))]
/-- A level, of which what is missing is filled up, makes the next one. -/
theorem up_lev (d n : Nat) (x c : Nat → Nat) (hc : ∀ i, i < cnt d n * 32 → c i = levN d (padN (n * 32) x) i) : ∀ i, i < cnt (d + 1) n * 32 → lvl (catN (cnt d n * 32) c (zrN d)) i = levN (d + 1) (padN (n * 32) x) i := fun i hi => by
 rw [levN_succ]
 refine lvl_congr (M := cnt (d + 1) n) (fun j hj => ?_) i hi
 have hcs : cnt (d + 1) n = (cnt d n + 1) / 2 := rfl
 unfold catN
 by_cases h : j < cnt d n * 32
 ·rw [if_pos h]; exact hc j h
 ·rw [if_neg h]
  have := lev_zero d (cnt d n) n x (cnt_ge d n) (j - cnt d n * 32) (by omega)
  rw [← this]
  exact congrArg _ (by omega)
/-- The root is the one chunk of the highest level. -/
theorem tree_lev (d n : Nat) (x : Nat → Nat) (hn : n ≤ 2 ^ d) (q : Nat) (hq : q < 32) : treeN d n x q = levN d (padN (n * 32) x) q := by
 rw [tree_full d n x hn q hq, full_lev d _ q hq]
end Go.Proofs.YtomilckcgmhfcaaDoor
/- append to a slice whose room is full: a new row of the call's own. -/
namespace Go.Proofs.YtomilckcgmhfcaaDoor
set_option maxRecDepth 40000
open Go.RowKit
section
variable {P : Program}
theorem cut_to3 {t e : TypeId} {z : Nat} (hu : P.underlying t = some (.slice e)) (hz : (P.info? e).map (·.size) = some z) (A : Option Addr) (n c h : Nat) (hh : h ≤ c) (w : World) :
  (Instr.sliceAt t (.slice A n c) none (some (.int .i64 (h : Int))) (some (.int .i64 (h : Int)))).run P w = .ok (.slice A h h) w := by
 have b1 : (Instr.sliceBound (.int .i64 (h : Int)) c .slice3Acap).run P w = .ok h w := by
  rw [run_sliceBound w .i64 (h : Int) c _ (by omega) (by omega)]; simp
 have b2 : (Instr.sliceBound (.int .i64 (h : Int)) h .slice3B).run P w = .ok h w := by
  rw [run_sliceBound w .i64 (h : Int) h _ (by omega) (by omega)]; simp
 simp [Instr.sliceAt, Instr.slice, run_underlying hu, Instr.sliceBounds, b1, b2, sizeOf_run hz, add_zero']
theorem rd_cells {w : World} {B n : Nat} {ad : Addr} {f : Nat → Value} (h : Rd w B (some ad) n f) : ∀ j v, ((List.range n).map f)[j]? = some v → w.cell? (ad.add j) = some v := fun j v hv => by
 have hj : j < n := by
  rcases Nat.lt_or_ge j n with h | h
  ·exact h
  ·simp [h] at hv
 rw [h.cell_ hj]
 simpa [hj] using hv
variable (w : World)
theorem run_growZ (base : Nat) (t ty e : TypeId) (i : TypeInfo) (z : Value) (k bytes : Nat) (ht : P.underlying t = some (.slice e)) (hi : P.info? e = some i) (hz : i.zero = some z)
  (hsize : i.size = k) (hby : i.bytes = bytes) (hzs : z.cells.size = k)
  {ad C : Addr} {n m cm B B2 : Nat} {f g : Nat → Value} (hf : Rd w B (some ad) (n * k) f) (hr : Rd w B2 (some C) (m * k) g) (hm : 0 < m)
  (hbytes : n + m ≤ 9223372036854775807 ∧ (n + m) * bytes ≤ 140737488355328) (hbase : base ≤ w.heap.size) :
  ∃ b c' w', (Builtin.append_ #[t, t] ty #[.slice (some ad) n n, .slice (some C) m cm]).run P w = .ok (.slice (some ⟨b, 0, none⟩) (n + m) c') w' ∧ OwnZ w' base e k (some ⟨b, 0, none⟩) (n + m) c' (catF (n * k) f g) ∧ Below w.heap.size w w' := by
 subst hsize
 subst hby
 have h63 : n + m ≤ maxLen := by unfold maxLen; omega
 have hr0 := run_append_grow (P := P) w t ty e i z ht hi hz ad n n ((List.range (n * i.size)).map f) (by simp) (rd_cells hf) C m cm ((List.range (m * i.size)).map g) (by simp) (rd_cells hr) (by omega) (by omega) (growslice_fits (by omega) hbytes.2)
 have hge := grownCap_ge w (n + m) n e
 have hcm := grownCap_le_maxLen w (n + m) n e h63
 refine ⟨_, _, _, hr0, ⟨by simp, .inr ⟨w.heap.size, _, _, rfl, hbase, heap_alloc_new w.drew _, hge, hcm, ?_, ?_⟩⟩, ⟨rfl, rfl, rfl, by simp, fun q hq => heap_alloc_old w.drew _ hq⟩⟩
 ·simp only [Array.size_append, List.size_toArray, size_zeroCells, hzs, List.length_map, List.length_range, ← Nat.add_mul]
  congr 1
  omega
 ·have hl : ((List.range (n * i.size)).map f ++ (List.range (m * i.size)).map g).length = (n + m) * i.size := by simp [Nat.add_mul]
  have hc : (List.range ((n + m) * i.size)).map (catF (n * i.size) f g) = (List.range (n * i.size)).map f ++ (List.range (m * i.size)).map g := by rw [catF_map, ← Nat.add_mul]
  simp only [Array.toList_append, List.append_assoc]
  rw [← List.append_assoc, hc, ← hl]
  exact List.take_left
theorem wp_growZ {o : Oper} {a : Act} {K : Act → World → Prop} {Q : Exit → Act → World → Prop} (s x : Operand) (t base : Nat) {e : TypeId} {z : Value} {k bytes : Nat}
  (hinfo : (P.info? e).map (fun i => (i.zero, i.size, i.bytes)) = some (some z, k, bytes)) (ht : P.underlying t = some (.slice e)) (hzs : z.cells.size = k)
  (ho : o.op = .call { callee := .builtin .append, args := #[s, x], argTypes := #[t, t] }) {ad : Addr} {C : Option Addr} {n m cm B B2 : Nat} {f g : Nat → Value} (hs : a.eval s = .slice (some ad) n n) (hx : a.eval x = .slice C m cm) (hf : Rd w B (some ad) (n * k) f) (hr : Rd w B2 C (m * k) g) (hm : 0 < m * k)
  (hbytes : n + m ≤ 9223372036854775807 ∧ (n + m) * bytes ≤ 140737488355328) (hbase : base ≤ w.heap.size)
  (hK : ∀ b c' w', OwnZ w' base e k (some ⟨b, 0, none⟩) (n + m) c' (catF (n * k) f g) → Below w.heap.size w w' → K (a.put o.dst (.slice (some ⟨b, 0, none⟩) (n + m) c')) w') : o.wp P a w K Q := by
 obtain ⟨C, rfl, _, _⟩ := hr hm
 have hm0 : 0 < m := by
  rcases Nat.eq_zero_or_pos m with h | h
  ·rw [h] at hm; simp at hm
  ·exact h
 obtain ⟨i, hi, hz, hsize, hby⟩ := infoZ hinfo
 obtain ⟨b, c', w', hrun, h5, h6⟩ := run_growZ (P := P) w base t o.type e i z k bytes ht hi hz hsize hby hzs (cm := cm) hf hr hm0 hbytes hbase
 unfold Oper.wp execOp
 simp only [ho, resolve, invoke, builtin, Sem.run_bind, Sem.run_pure, Result.andThen_ok, List.map_toArray, List.map_cons, List.map_nil, hs, hx]
 rw [hrun]
 exact hK _ _ _ h5 h6
end
section
variable {P : Program} {ops : Array Oper} {B : Nat} {w0 : World} {o : Oper} {lk : Tmp → SF} {ty : TypeId}
theorem opOb_slc3 {x u m v : Value} {xo yo mo : Operand} (hg : o.guard = none) (hop : o.op = .slice ty xo none (some yo) (some mo)) (hx : OpK lk xo x) (hy : OpK lk yo u) (hm : OpK lk mo m)
  (hr : ∀ w, (Instr.sliceAt ty x none (some u) (some m)).run P w = .ok v w) : opOb P ops B w0 o (SF.is v) lk :=
 opOb_val _ hg fun a w _ hf => by
  have h1 := hx.eval hf (by rw [hop]; simp [Op.operands])
  have h2 := hy.eval hf (by rw [hop]; simp [Op.operands])
  have h3 := hm.eval hf (by rw [hop]; simp [Op.operands])
  unfold execOp
  rw [hop]
  simp only [h1, Option.map_some, Option.map_none, h2, h3]
  simp [hr w]
end
end Go.Proofs.YtomilckcgmhfcaaDoor
/- A list that is made. -/
namespace Go.Proofs.YtomilckcgmhfcaaDoor
set_option maxRecDepth 40000
open Go.RowKit
theorem made_u8 (k N : Nat) (hk : 0 < k) : ∀ i, i < N → (madeCells (Array.replicate k (Value.int .u8 0)) N)[i]? = some (.int .u8 0) := fun i hi => by
 have hm : i % k < k := Nat.mod_lt _ hk
 simp [madeCells, hi, hm]
section
variable {P : Program}
theorem wpList_makeL {ops : Array Oper} {rest : List Oper} {o : Oper} {a : Act} {w w0 : World} {Q : Exit → Act → World → Prop} {rows : List RowSpec} (hgd : o.guard = none) (t : TypeId) {e : TypeId} {z : Value} {k bytes : Nat} (ht : P.underlying t = some (.slice e)) (hinfo : (P.info? e).map (fun i => (i.zero, i.size, i.bytes)) = some (some z, k, bytes))
  (x y : Operand) (ho : o.op = .makeSlice t x y) (n : Nat) (hx : a.eval x = .int .i64 (n : Int)) (hy : a.eval y = .int .i64 (n : Int)) (f : Nat → Value) (hf : ∀ i, i < n * k → (madeCells z.cells (n * k))[i]? = some (f i)) (hbytes : bytes * n ≤ 281474976710656) (h63 : n ≤ 9223372036854775807) (h : HS w0 w rows)
  (hK : ∀ b w', w0.heap.size ≤ b → w.heap.size ≤ b → HS w0 w' (⟨b, e, n * k, f⟩ :: rows) → wpList P ops Q rest (a.put o.dst (.slice (some ⟨b, 0, none⟩) n n)) w') : wpList P ops Q (o :: rest) a w :=
 wpList_plain hgd fun _ hK' => by
  obtain ⟨i, hi, hz, hsize, hby⟩ := infoZ hinfo
  have hr := run_make (P := P) w t e i z ht hi hz .i64 .i64 (n : Int) (n : Int) (by omega) (Int.le_refl _) (by rw [hby, ← Int.natCast_mul]; omega) (by omega)
  simp only [Int.toNat_natCast, hsize] at hr
  have hrun : (execOp a.eval o).run P w = .ok (.value (.slice (some ⟨w.heap.size, 0, none⟩) n n)) (w.alloc (.cells (madeCells z.cells (n * k)) e)) := by
   unfold execOp
   rw [ho]
   simp only [hx, hy]
   simp [hr]
  unfold Oper.wp
  rw [hrun]
  exact hK' _ _ (hK _ _ h.size (Nat.le_refl _) (h.alloc _ e (n * k) f (size_madeCells _ _) hf))
end
end Go.Proofs.YtomilckcgmhfcaaDoor
/- A whole value laid into a part of a row. -/
namespace Go.Proofs.YtomilckcgmhfcaaDoor
set_option maxRecDepth 40000
open Go.RowKit
section
variable {P : Program}
theorem run_storeAt_part {w : World} {b : Nat} {t : TypeId} {n : Nat} {f : Nat → Value} (h : w.rowIs b t n f) (ty : TypeId) (o m : Nat) (g : Nat → Value) (hi : (P.info? ty).map (·.size) = some m) (hfit : o + m ≤ n) (h1 : ∀ i, i < m → (g i).oneCell' = true) :
  ∃ w1, (Instr.storeAt ty (.pointer (some ⟨b, o, none⟩)) (.agg (arr m g))).run P w = .ok () w1 ∧ w1.rowIs b t n (fun j => if o ≤ j ∧ j < o + m then g (j - o) else f j) ∧ w.grownBy w1 (some b) := by
 obtain ⟨cur, hcur, hsz, hcc⟩ := h
 cases hq : P.info? ty with
 | none => rw [hq] at hi; simp at hi
 | some i =>
  have hs : i.size = m := by rw [hq] at hi; simpa using hi
  have hl : (arr m g).toList.length = m := by simp [size_arr]
  have hrun := run_storeCells_at (P := P) b o t (arr m g).toList 0 cur w hcur (by rw [hl]; omega) (fun v hv => by
   obtain ⟨j, hj, rfl⟩ := List.mem_iff_getElem.1 hv
   have hj' : j < m := by omega
   have h2 := arr_at m g j hj'
   rw [← Array.getElem?_toList, List.getElem?_eq_getElem hj] at h2
   injection h2 with h2
   rw [h2]; exact h1 j hj')
  rw [hl] at hrun
  refine ⟨_, ?_, World.rowIs_setRow ⟨cur, hcur, hsz, hcc⟩ (cur.toList.take (o + 0) ++ (arr m g).toList ++ cur.toList.drop (o + 0 + m)).toArray (by simp [size_arr]; omega) _ (fun q hq2 => ?_), ⟨rfl, rfl, rfl, by rw [size_setRow]; exact Nat.le_refl _, fun i _ hne => by
   unfold World.setRow
   have : ¬ b = i := fun e => hne (by rw [e])
   simp [Array.getElem?_modify, this]⟩⟩
  ·simp only [Instr.storeAt, Instr.sureAddr, Sem.run_bind, Sem.run_pure, Result.andThen]
   simpa [storeVar, sizeOf, typeInfo, hq, Value.cells, size_arr, hs] using hrun
  ·have hci := hcc q hq2
   simp only [Nat.add_zero, List.getElem?_toArray, List.getElem?_append, List.length_take, List.length_append, hl, Array.length_toList]
   by_cases h2 : q < o
   ·rw [if_neg (show ¬ (o ≤ q ∧ q < o + m) by omega)]
    rw [if_pos (show q < min o cur.size + m by omega), if_pos (show q < min o cur.size by omega), List.getElem?_take, if_pos h2, Array.getElem?_toList, hci]
   ·by_cases h3 : q < o + m
    ·rw [if_pos (show o ≤ q ∧ q < o + m by omega)]
     rw [if_pos (show q < min o cur.size + m by omega), if_neg (show ¬ q < min o cur.size by omega), show min o cur.size = o by omega, Array.getElem?_toList, arr_at m g _ (by omega)]
    ·rw [if_neg (show ¬ (o ≤ q ∧ q < o + m) by omega)]
     rw [if_neg (show ¬ q < min o cur.size + m by omega), List.getElem?_drop, show min o cur.size = o by omega, show o + m + (q - (o + m)) = q by omega, Array.getElem?_toList, hci]
/-- A value of m cells is laid into row k from cell o on; the world is a letter. -/
theorem wp_storeP {o : Oper} {a : Act} {w w0 : World} {K : Act → World → Prop} {Q : Exit → Act → World → Prop} {rows : List RowSpec} (ty : TypeId) (x y : Operand) (ho : o.op = .store ty x y) (h : HS w0 w rows) (k : Nat) {b : Nat} {t : TypeId} {n : Nat} {f : Nat → Value} (hk : rows[k]? = some ⟨b, t, n, f⟩)
  (off m : Nat) (g : Nat → Value) (hx : a.eval x = .pointer (some ⟨b, off, none⟩)) (hy : a.eval y = .agg (arr m g)) (hi : (P.info? ty).map (·.size) = some m) (hfit : off + m ≤ n) (h1 : ∀ i, i < m → (g i).oneCell' = true) (F : Nat → Value) (hF : ∀ j, j < n → (if off ≤ j ∧ j < off + m then g (j - off) else f j) = F j)
  (hK : ∀ w', HS w0 w' (rows.set k ⟨b, t, n, F⟩) → K (a.put o.dst undef) w') : o.wp P a w K Q := by
 obtain ⟨w1, hrun, hr, hg⟩ := run_storeAt_part (P := P) (h.row k hk) ty off m g hi hfit h1
 unfold Oper.wp execOp
 simp only [ho, hx, hy, Sem.run_bind, hrun, Result.andThen_ok, Sem.run_pure]
 exact hK _ (h.write k hk hg (hr.congr hF))
end
/-- The row that an own slice lies in. -/
theorem OwnZ.row {w : World} {base z n c : Nat} {e : TypeId} {ad : Addr} {f : Nat → Value} (h : OwnZ w base e z (some ad) n c f) : ∃ F, w.rowIs ad.block e (c * z) F ∧ (∀ i, i < n * z → F i = f i) ∧ base ≤ ad.block := by
 rcases h.2 with ⟨hv, _⟩ | ⟨g, cap, cur, hv, hb, hh, _, _, hs, ht⟩
 ·injection hv with h1; cases h1
 ·injection hv with h1 _ h3
  injection h1 with h1
  subst h1 h3
  refine ⟨fun i => cur.getD i undef, ⟨cur, hh, hs, fun i hi => by simp [Array.getD, show i < cur.size by omega]⟩, fun i hi => ?_, hb⟩
  have h4 : (cur.toList.take (n * z))[i]? = some (f i) := by rw [ht]; simp [hi]
  rw [List.getElem?_take, if_pos hi, Array.getElem?_toList] at h4
  simp [Array.getD_eq_getD_getElem?, h4]
theorem OwnZ.of_rowC {w : World} {base z n c b : Nat} {e : TypeId} {F f : Nat → Value} (h : w.rowIs b e (c * z) F) (hb : base ≤ b) (hn : n ≤ c) (hc : c ≤ maxLen) (hf : ∀ i, i < n * z → F i = f i) : OwnZ w base e z (some ⟨b, 0, none⟩) n c f := by
 obtain ⟨cs, hh, hs, hcc⟩ := h
 have hnz : n * z ≤ c * z := Nat.mul_le_mul_right _ hn
 refine ⟨by simp, .inr ⟨b, c, cs, rfl, hb, hh, hn, hc, hs, ?_⟩⟩
 apply List.ext_getElem?
 intro i
 by_cases hi : i < n * z
 ·simp [hi, hcc i (by omega), hf i hi]
 ·simp [List.getElem?_take, hi]
end Go.Proofs.YtomilckcgmhfcaaDoor
/- Depths, zero roots and levels, by the program. -/
namespace Go.Proofs.YtomilckcgmhfcaaDoor
set_option maxRecDepth 40000
open Go.RowKit
theorem bitLen_dep (l : Nat) (h : 2 ≤ l) (hl : l ≤ 18446744073709551616) : Lib.bitLen (l - 1) = dep l := by
 have h1 := Lib.bitLenAux_bounds 64 (l - 1) (by omega) (by omega)
 have hb : 1 ≤ Lib.bitLen (l - 1) ∧ 2 ^ (Lib.bitLen (l - 1) - 1) ≤ l - 1 ∧ l - 1 < 2 ^ Lib.bitLen (l - 1) := h1
 obtain ⟨b, hbb⟩ : ∃ b, b = Lib.bitLen (l - 1) := ⟨_, rfl⟩
 rw [← hbb] at hb ⊢
 have h2 : dep l ≤ b := dep_le (by omega)
 rcases Nat.lt_or_ge (dep l) b with h3 | h3
 ·exfalso
  have h4 := dep_ge l
  have h5 : 2 ^ dep l ≤ 2 ^ (b - 1) := Nat.pow_le_pow_right (by omega) (by omega)
  omega
 ·omega
namespace MerkleFn
theorem ent_two (vs : Array Value) (w : World) : (callFunc 33 vs).run Tryd.prog w = .ok (.enter 33 vs) w := by kernel_rfl
end MerkleFn
theorem len_look (x : Nat) (hx : x < 18446744073709551616) (w : World) : Calls Tryd.prog 78 #[.int .u64 (x : Int)] w fun e w' => e = .returned (.int .i64 ((Lib.bitLen x : Nat) : Int)) ∧ w' = w := by
 go_enter Tryd.func78, Tryd.ntmps78
 go_wp2_with (go_at_call 94; refine (len64_any (x : Int) _ (by omega) (by omega)).mono ?_; rintro e w2 ⟨rfl, rfl⟩; rw [Int.toNat_natCast])
 go_ret
 exact ⟨rfl, rfl⟩
theorem depth_look (l : Nat) (hl : l ≤ 1099511627776) (w : World) : Calls Tryd.prog 50 #[.int .i64 (l : Int)] w fun e w' => e = .returned (.int .i64 ((dep l : Nat) : Int)) ∧ w' = w := by
 by_cases h : l < 2
 ·have hd : dep l = 0 := by unfold dep; rw [if_pos (by omega)]
  rw [hd]
  go_enter Tryd.func50, Tryd.ntmps50
  go_wp2_with fail
  go_ret
  exact ⟨rfl, rfl⟩
 ·obtain ⟨m, rfl⟩ : ∃ m, l = m + 1 := ⟨l - 1, by omega⟩
  have hb := bitLen_dep (m + 1) (by omega) (by omega)
  rw [Nat.add_sub_cancel] at hb
  rw [← hb]
  clear hb
  have h2 : 2 ≤ m + 1 := by omega
  clear h
  go_enter Tryd.func50, Tryd.ntmps50
  go_wp2_with (first
   | (refine wpList_as rfl 6 rfl (.int .i64 (m : Int)) ?_ ?_; (· exact ex_bin rfl rfl rfl rfl (fun w => subd m (by omega) w) _))
   | (refine wpList_as rfl 7 rfl (.int .u64 (m : Int)) ?_ ?_; (· exact ex_cnv rfl rfl (fun w => TreeRef.cvu m (by omega) w) _))
   | (go_at_call 78; refine (len_look m (by omega) _).mono ?_; rintro e w2 ⟨rfl, rfl⟩))
  go_ret
  exact ⟨rfl, rfl⟩
end Go.Proofs.YtomilckcgmhfcaaDoor
/- merkle.zeros and merkle.up. (Printed by a program of mine.) -/
namespace Go.Proofs.YtomilckcgmhfcaaDoor
set_option maxRecDepth 40000
open Go.RowKit
namespace MerkleUp
/-- The zero roots, of which j are reckoned. -/
def zpart (j : Nat) : Nat → Nat := fun i => if i < (j + 1) * 32 then zrL i else 0
theorem zr_in {j i : Nat} (hi : i < 32) : u8v (zpart j) (j * 32 + i) = u8v (zrN j) i := by
 simp only [u8v, zpart]
 rw [if_pos (by omega), zrL_at j i hi]
theorem zr_succ (j : Nat) : zrN (j + 1) = shaB (catN 32 (zrN j) (zrN j)) 64 := rfl
theorem zp_in {j i : Nat} (h : i < (j + 1) * 32) : zpart j i = zrL i := if_pos h
theorem zp_out {j i : Nat} (h : ¬ i < (j + 1) * 32) : zpart j i = 0 := if_neg h
theorem z_step {j N : Nat} : ∀ q, q < N → (if (j + 1) * 32 ≤ q ∧ q < (j + 1) * 32 + 32 then u8v (shaB (catN 32 (zrN j) (zrN j)) 64) (q - (j + 1) * 32) else u8v (zpart j) q) = u8v (zpart (j + 1)) q := fun q _ => by
 by_cases h : (j + 1) * 32 ≤ q ∧ q < (j + 1) * 32 + 32
 ·have e : zrL q = zrN (j + 1) (q - (j + 1) * 32) := by
   have := zrL_at (j + 1) (q - (j + 1) * 32) (by omega)
   rwa [show (j + 1) * 32 + (q - (j + 1) * 32) = q by omega] at this
  have h2 : q < (j + 1 + 1) * 32 := by omega
  have e2 := zp_in h2
  rw [if_pos h]
  exact congrArg (fun k : Nat => Value.int .u8 (k : Int)) ((e2.trans (e.trans (congrFun (zr_succ j) _))).symm)
 ·rw [if_neg h]
  by_cases h1 : q < (j + 1) * 32
  ·have h2 : q < (j + 1 + 1) * 32 := Nat.lt_of_lt_of_le h1 (Nat.mul_le_mul_right 32 (Nat.le_succ _))
   exact congrArg (fun k : Nat => Value.int .u8 (k : Int)) ((zp_in h1).trans (zp_in h2).symm)
  ·have h2 : ¬ q < (j + 1 + 1) * 32 := fun h2 => h ⟨Nat.le_of_not_lt h1, by rw [← Nat.succ_mul]; exact h2⟩
   exact congrArg (fun k : Nat => Value.int .u8 (k : Int)) ((zp_out h1).trans (zp_out h2).symm)
theorem z_zero {i : Nat} : Value.int .u8 0 = u8v (zpart 0) i := by
 simp only [u8v, zpart]
 by_cases h : i < (0 + 1) * 32
 ·rw [if_pos h]
  have := zrL_at 0 i (by omega)
  rw [show 0 * 32 + i = i by omega] at this
  rw [this]; rfl
 ·rw [if_neg h]; rfl
/-- The level above, of which j chunks are reckoned. -/
def lpart (j : Nat) (X : Nat → Nat) : Nat → Nat := fun i => if i < j * 32 then lvl X i else 0
theorem l_step {j N : Nat} {X : Nat → Nat} : ∀ q, q < N → (if j * 32 ≤ q ∧ q < j * 32 + 32 then u8v (shaB (catN 32 (fun q => X (2 * j * 32 + q)) (fun q => X ((2 * j + 1) * 32 + q))) 64) (q - j * 32) else u8v (lpart j X) q) = u8v (lpart (j + 1) X) q := fun q _ => by
 by_cases h : j * 32 ≤ q ∧ q < j * 32 + 32
 ·rw [if_pos h]
  simp only [u8v, lpart]
  rw [if_pos (by omega)]
  unfold lvl
  rw [show q / 32 = j by omega, show q % 32 = q - j * 32 by omega]
 ·rw [if_neg h]
  simp only [u8v, lpart]
  by_cases h1 : q < j * 32
  ·rw [if_pos h1, if_pos (by omega)]
  ·rw [if_neg h1, if_neg (by omega)]
theorem cat_up {n : Nat} {x z : Nat → Nat} {N : Nat} : ∀ i, i < N → catF (n * 32) (u8v x) (u8v z) i = u8v (catN (n * 32) x z) i := fun i _ => by
 simp only [catF, u8v, catN]; split <;> rfl
theorem quo2 (m : Nat) (h2 : m ≤ 4611686018427387903) (w : World) : (binOp .quo 3 (.int .i64 ((2 * m : Nat) : Int)) (.int .i64 2)).run Tryd.prog w = .ok (.int .i64 (m : Int)) w := by
 simp [go_sem, IntKind.wrap, IntKind.bits, IntKind.signed]
 omega
theorem rem2 (n r : Nat) (h2 : n ≤ 4611686018427387903) (hr : n % 2 = r) (w : World) : (binOp .rem 3 (.int .i64 (n : Int)) (.int .i64 2)).run Tryd.prog w = .ok (.int .i64 (r : Int)) w := by
 subst hr
 have h : (n : Int).tmod 2 = ((n % 2 : Nat) : Int) := by rw [Int.tmod_eq_emod_of_nonneg (by omega)]; omega
 simp [go_sem, h]
end MerkleUp
open MerkleFn MerkleUp in
set_option maxHeartbeats 4000000 in
theorem zeros_look (n : Nat) (hn : n ≤ 40) (w : World) (hp : ShaPkg w) :
  Calls Tryd.prog 51 #[.int .i64 (n : Int)] w fun e w' => ∃ b, e = .returned (.slice (some ⟨b, 0, none⟩) (n + 1) (n + 1)) ∧ w.heap.size ≤ b ∧ w'.rowIs b 24 ((n + 1) * 32) (u8v zrL) ∧ Below w.heap.size w w' := by
 have HP := Lib.hid hp
 have HS0 := Lib.hid (HS.nil w)
 clear hp
 go_enter Tryd.func51, Tryd.ntmps51
 go_wp2_with (first
  | (refine wpList_makeL rfl 32 (e := 24) (z := .agg (Array.replicate 32 (.int .u8 0))) (k := 32) (bytes := 32) Tryd.underlying32 (by kernel_rfl) (.tmp 6) (.tmp 6) rfl (n + 1) rfl rfl (u8v (zpart 0)) (fun i hi => (made_u8 32 _ (by omega) i hi).trans (congrArg some z_zero)) (by omega) (by omega) HS0.out ?_; intro b w1 hb1 hc1 hs; have HS1 := Lib.hid hs; clear hs))
 go_loopw [9] (fun i wr => ∃ j : Nat, i = .int .i64 (j : Int) ∧ j ≤ n ∧ HS w wr [⟨b, 24, (n + 1) * 32, u8v (zpart j)⟩]) (fun i _ => n - (intOf i).toNat)
 case atStart => exact ⟨0, rfl, by omega, HS1.out⟩
 case round =>
  clear HS1
  obtain ⟨j, rfl, hj, hs⟩ := hrel
  have HSq := Lib.hid hs
  have HWr := Lib.hid (hs.out (by simp; omega))
  clear hs
  by_cases hjn : j < n
  ·go_wp2_with fail
   refine wp_region_factsS (l := [_, _, _, _, _, _, _, _, _, _, _, _, _]) (tl := []) (B := wr.heap.size) (w0 := wr) [SF.is (.slice (some ⟨b, 0, none⟩) (n + 1) (n + 1)), SF.is (.int .i64 ((j : Nat) : Int)), SF.is (.int .i64 ((j + 1 : Nat) : Int)), SF.is (.slice (some ⟨b, 0, none⟩) (n + 1) (n + 1)), SF.is (.int .i64 ((j : Nat) : Int)), SF.is (.pointer (some ⟨b, j * 32, none⟩)), SF.is (rootV (zrN j)), SF.is (.slice (some ⟨b, 0, none⟩) (n + 1) (n + 1)), SF.is (.int .i64 ((j : Nat) : Int)), SF.is (.pointer (some ⟨b, j * 32, none⟩)), SF.is (rootV (zrN j)), SF.is (rootV (shaB (catN 32 (zrN j) (zrN j)) 64)), SF.is (.pointer (some ⟨b, (j + 1) * 32, none⟩))] (by kernel_rfl) (by kernel_rfl) rfl (Nat.le_refl _) (Below.refl _ _) ⟨?_, ?_, ?_, ?_, ?_, ?_, ?_, ?_, ?_, ?_, ?_, ?_, ?_, trivial⟩ ?_
   ·exact (opOb_move _ rfl (.inl rfl) rfl)
   ·exact (opOb_move _ rfl (.inl rfl) rfl)
   ·exact opOb_nadd j 1 (by omega) rfl rfl (OpK.tmp rfl) OpK.const
   ·exact (opOb_move _ rfl (.inl rfl) rfl)
   ·exact (opOb_move _ rfl (.inl rfl) rfl)
   ·exact opOb_idx rfl rfl (OpK.tmp rfl) (OpK.tmp rfl) (fun w => (run_idxZ (z := 32) w Tryd.underlying32 (by kernel_rfl) ⟨b, 0, none⟩ (by omega)).trans (by rw [add_lit0]))
   ·exact opOb_ld rfl rfl (OpK.tmp rfl) (fun w' hb => run_loadAt_part w' b (j * 32) 32 24 _ (u8v (zrN j)) (fun i hi => ((row_below (HSq.out.row 0 rfl) hb (HSq.out.row 0 rfl).lt).cell (i := j * 32 + i) (show j * 32 + i < (n + 1) * 32 by omega)).trans (congrArg some (zr_in hi))) Tryd.underlying24 rfl (by kernel_rfl))
   ·exact (opOb_move _ rfl (.inl rfl) rfl)
   ·exact (opOb_move _ rfl (.inl rfl) rfl)
   ·exact opOb_idx rfl rfl (OpK.tmp rfl) (OpK.tmp rfl) (fun w => (run_idxZ (z := 32) w Tryd.underlying32 (by kernel_rfl) ⟨b, 0, none⟩ (by omega)).trans (by rw [add_lit0]))
   ·exact opOb_ld rfl rfl (OpK.tmp rfl) (fun w' hb => run_loadAt_part w' b (j * 32) 32 24 _ (u8v (zrN j)) (fun i hi => ((row_below (HSq.out.row 0 rfl) hb (HSq.out.row 0 rfl).lt).cell (i := j * 32 + i) (show j * 32 + i < (n + 1) * 32 by omega)).trans (congrArg some (zr_in hi))) Tryd.underlying24 rfl (by kernel_rfl))
   ·exact opOb_fn2 ent_two rfl rfl (OpK.tmp rfl) (OpK.tmp rfl) (fun w' hb => (two_any (zrN j) (zrN j) (zrN_lt j) (zrN_lt j) w' (HP.out.below (HWr.out.trans (hb.mono HWr.out.size)))).mono fun e w'' ⟨he, hb2⟩ => ⟨_, he, rfl, hb2⟩)
   ·exact opOb_idx rfl rfl (OpK.tmp rfl) (OpK.tmp rfl) (fun w => (run_idxZ (z := 32) w Tryd.underlying32 (by kernel_rfl) ⟨b, 0, none⟩ (by omega)).trans (by rw [add_lit0]))
   ·intro w' hb
    simp only [fin, SF.is, forall_eq]
    simp only [pcX]
    have hs := HSq.out.below hb
    refine wp_storeP 24 (.tmp 24) (.tmp 23) rfl hs 0 rfl ((j + 1) * 32) 32 (u8v (shaB (catN 32 (zrN j) (zrN j)) 64)) rfl rfl (by kernel_rfl) (by omega) (fun _ _ => rfl) (u8v (zpart (j + 1))) z_step ?_
    clear hs hb
    intro wy hs
    have HY := Lib.hid hs
    clear hs
    simp only [seqWp, Act.put]
    go_wp2_with fail
    go_roundw
    case rel => exact ⟨j + 1, by go_num, by omega, HY.out⟩
    case measure => simp [intOf]; omega
  ·obtain rfl : j = n := by omega
   go_wp2_with fail
   go_ret
   exact ⟨b, rfl, hb1, (HSq.out.row 0 rfl).congr (fun i hi => by simp only [u8v, zpart]; rw [if_pos hi]), HWr.out⟩
/-- What is behind the test whether the count is odd. -/
def UpEnd (w : World) (h : Nat) (X : Nat → Nat) (w' : World) (e : Ending) : Prop := ∃ b, e = .returned (.slice (some ⟨b, 0, none⟩) h h) ∧ w.heap.size ≤ b ∧ w'.rowIs b 24 (h * 32) (u8v (lvl X)) ∧ Below w.heap.size w w'
open MerkleFn MerkleUp in
set_option maxHeartbeats 8000000 in
theorem up_look (n c : Nat) (A : Option Addr) (x z : Nat → Nat) (w : World) (hb : Rd w w.heap.size A (n * 32) (u8v x)) (hx : ∀ i, x i < 256) (hz : ∀ i, z i < 256) (hnc : n ≤ c) (hn1 : 1 ≤ n) (hn : n * 32 ≤ 140737488351232) (hp : ShaPkg w) :
  Calls Tryd.prog 52 #[.slice A n c, rootV z] w fun e w' => UpEnd w ((n + 1) / 2) (catN (n * 32) x z) w' e := by
 have HB := Lib.hid hb
 have HX := Lib.hid hx
 have HZ := Lib.hid hz
 have HP := Lib.hid hp
 have HS0 := Lib.hid (HS.nil w)
 obtain ⟨a, rfl, _, _⟩ := hb (by omega)
 obtain ⟨X, hX⟩ : ∃ X, X = catN (n * 32) x z := ⟨_, rfl⟩
 have HXl := Lib.hid (show ∀ i, X i < 256 by rw [hX]; exact catN_lt hx hz)
 rw [← hX]
 have HXe := Lib.hid hX
 clear hb hx hz hp hX
 by_cases hodd : n % 2 = 1
 ·obtain ⟨h, hh⟩ : ∃ h, n + 1 = 2 * h := ⟨(n + 1) / 2, by omega⟩
  rw [show (n + 1) / 2 = h by omega]
  go_enter Tryd.func52, Tryd.ntmps52
  go_wp2_with (first
   | (refine wpList_boxL rfl 24 _ 3 rfl rfl HS0.out 32 (u8v z) rfl ?_; intro b3 w3 hb3 hc3 hs; have HS3 := Lib.hid hs; clear hs)
   | (refine wpList_as rfl 9 rfl (.int .i64 1) ?_ ?_; (· exact ex_bin rfl rfl rfl rfl (fun w => rem2 n 1 (by omega) hodd w) _)))
  have HW3 := Lib.hid (HS3.out.out (by simp; omega))
  refine wp_region_factsS (l := [_, _, _, _, _, _, _, _]) (tl := [_]) (B := w3.heap.size) (w0 := w3) [SF.is (.slice (some a) (n) (c)), SF.is (.slice (some a) (n) (c)), SF.is (.int .i64 ((n : Nat) : Int)), SF.is (.slice (some a) (n) (c)), SF.is (.int .i64 ((n : Nat) : Int)), SF.is (.slice (some a) (n) (n)), SF.is (rootV z), SF.rdZ 1 32 (u8v z)] (by kernel_rfl) (by kernel_rfl) rfl (Nat.le_refl _) (Below.refl _ _) ⟨?_, ?_, ?_, ?_, ?_, ?_, ?_, ?_, trivial⟩ ?_
  ·exact (opOb_move _ rfl (.inl rfl) rfl)
  ·exact (opOb_move _ rfl (.inl rfl) rfl)
  ·exact opOb_len Tryd.underlying32 rfl rfl (OpK.tmp rfl)
  ·exact (opOb_move _ rfl (.inl rfl) rfl)
  ·exact opOb_len Tryd.underlying32 rfl rfl (OpK.tmp rfl)
  ·exact opOb_slc3 rfl rfl (OpK.tmp rfl) (OpK.tmp rfl) (OpK.tmp rfl) (fun w => cut_to3 (z := 32) Tryd.underlying32 (by kernel_rfl) (some a) n c n hnc w)
  ·exact opOb_ld rfl rfl (OpK.tmp rfl) (fun w' hb => ld_all (HS3.out.row 0 rfl) (HS3.out.row 0 rfl).lt Tryd.underlying24 rfl (by kernel_rfl) w' hb)
  ·exact opOb_bs1Z Tryd.underlying32 (z := 32) (by kernel_rfl) (by omega) (by omega) (v0 := .agg (Array.replicate 32 (.int .u8 0))) (by kernel_rfl) rfl rfl (u8v z) (OpK.tmp rfl)
  ·intro w' hb
   simp only [fin, SF.is, SF.rdZ, forall_eq]
   simp only [pcX]
   rintro _ ⟨A18, c18, rfl, hr18⟩
   have hw' := HW3.out.trans (hb.mono HW3.out.size)
   refine wp_growZ w' (.tmp 16) (.tmp 18) 32 w.heap.size (z := .agg (Array.replicate 32 (.int .u8 0))) (k := 32) (bytes := 32) (by kernel_rfl) Tryd.underlying32 (by rfl) rfl rfl rfl (HB.out.below hw') hr18 (by omega) ⟨by omega, by omega⟩ hw'.size ?_
   intro b19 c0 wm ho hgb
   have HWm := Lib.hid (hw'.trans (hgb.mono hw'.size))
   have hrd := (ho.rd.congr (f' := u8v X) (fun i hi => (cat_up (N := (n + 1) * 32) i hi).trans (by rw [HXe.out])))
   rw [hh] at hrd ho ⊢
   have HX0 := Lib.hid hrd
   have hb19 := (ho.base_le _ rfl)
   have hcap := ho.cap
   clear ho hrd hgb hw' hr18 hb HS3 HS0
   refine wp_asg (.slice (some ⟨b19, 0, none⟩) (2 * h) c0) (.inl rfl) rfl ?_
   simp only [seqWp, Act.put, List.setIfInBounds_toArray, List.set_cons_succ, List.set_cons_zero]
   obtain ⟨a0, ha0⟩ : ∃ a0 : Addr, a0 = ⟨b19, 0, none⟩ := ⟨_, rfl⟩
   rw [← ha0] at HX0 ⊢
   clear ha0
   go_wp2_with (first
    | (refine wpList_as rfl 22 rfl (.int .i64 (h : Int)) ?_ ?_; (· exact ex_bin rfl rfl rfl rfl (fun w => quo2 h (by omega) w) _))
    | (refine wpList_makeL rfl 32 (e := 24) (z := .agg (Array.replicate 32 (.int .u8 0))) (k := 32) (bytes := 32) Tryd.underlying32 (by kernel_rfl) (.tmp 22) (.tmp 22) rfl h rfl rfl (u8v (lpart 0 X)) (fun i hi => (made_u8 32 _ (by omega) i hi).trans (congrArg some (by simp [u8v, lpart]))) (by omega) (by omega) (HS.nil wm) ?_; intro b w1 hb1 hc1 hs; have HS1 := Lib.hid hs; clear hs))
   go_loopw [26] (fun i wr => ∃ j : Nat, i = .int .i64 (j : Int) ∧ j ≤ h ∧ HS wm wr [⟨b, 24, h * 32, u8v (lpart j X)⟩]) (fun i _ => h - (intOf i).toNat)
   case atStart => exact ⟨0, rfl, by omega, HS1.out⟩
   case round =>
    clear HS1
    obtain ⟨j, rfl, hj, hs⟩ := hrel
    have HSq := Lib.hid hs
    have HWq := Lib.hid (hs.out (by simp; omega))
    have HWq0 := Lib.hid (HWm.out.trans (HWq.out.mono HWm.out.size))
    clear hs
    by_cases hjn : j < h
    ·go_wp2_with fail
     refine wp_region_factsS (l := [_, _, _, _, _, _, _, _, _, _, _, _, _, _, _]) (tl := []) (B := wr.heap.size) (w0 := wr) [SF.is (.slice (some ⟨b, 0, none⟩) (h) (h)), SF.is (.int .i64 ((j : Nat) : Int)), SF.is (.slice (some a0) (2 * h) (c0)), SF.is (.int .i64 ((j : Nat) : Int)), SF.is (.int .i64 ((2 * j : Nat) : Int)), SF.is (.pointer (some (a0.add (2 * j * 32)))), SF.is (rootV (fun q => X (2 * j * 32 + q))), SF.is (.slice (some a0) (2 * h) (c0)), SF.is (.int .i64 ((j : Nat) : Int)), SF.is (.int .i64 ((2 * j : Nat) : Int)), SF.is (.int .i64 ((2 * j + 1 : Nat) : Int)), SF.is (.pointer (some (a0.add ((2 * j + 1) * 32)))), SF.is (rootV (fun q => X ((2 * j + 1) * 32 + q))), SF.is (rootV (shaB (catN 32 (fun q => X (2 * j * 32 + q)) (fun q => X ((2 * j + 1) * 32 + q))) 64)), SF.is (.pointer (some ⟨b, j * 32, none⟩))] (by kernel_rfl) (by kernel_rfl) rfl (Nat.le_refl _) (Below.refl _ _) ⟨?_, ?_, ?_, ?_, ?_, ?_, ?_, ?_, ?_, ?_, ?_, ?_, ?_, ?_, ?_, trivial⟩ ?_
     ·exact (opOb_move _ rfl (.inl rfl) rfl)
     ·exact (opOb_move _ rfl (.inl rfl) rfl)
     ·exact (opOb_move _ rfl (.inl rfl) rfl)
     ·exact (opOb_move _ rfl (.inl rfl) rfl)
     ·exact opOb_nmul 2 j (by omega) rfl rfl OpK.const (OpK.tmp rfl)
     ·exact opOb_idx rfl rfl (OpK.tmp rfl) (OpK.tmp rfl) (fun w => run_idxZ (z := 32) w Tryd.underlying32 (by kernel_rfl) a0 (by omega))
     ·exact opOb_ld rfl rfl (OpK.tmp rfl) (fun w' hb => run_loadAt_rd w' (a0.add (2 * j * 32)) 32 24 _ (u8v (fun q => X (2 * j * 32 + q))) (fun i hi => by rw [add_add]; exact ((HX0.out.below (HWq.out.trans (hb.mono HWq.out.size))).cells (show 2 * j * 32 + i < 2 * h * 32 by omega))) Tryd.underlying24 rfl (by kernel_rfl))
     ·exact (opOb_move _ rfl (.inl rfl) rfl)
     ·exact (opOb_move _ rfl (.inl rfl) rfl)
     ·exact opOb_nmul 2 j (by omega) rfl rfl OpK.const (OpK.tmp rfl)
     ·exact opOb_nadd (2 * j) 1 (by omega) rfl rfl (OpK.tmp rfl) OpK.const
     ·exact opOb_idx rfl rfl (OpK.tmp rfl) (OpK.tmp rfl) (fun w => run_idxZ (z := 32) w Tryd.underlying32 (by kernel_rfl) a0 (by omega))
     ·exact opOb_ld rfl rfl (OpK.tmp rfl) (fun w' hb => run_loadAt_rd w' (a0.add ((2 * j + 1) * 32)) 32 24 _ (u8v (fun q => X ((2 * j + 1) * 32 + q))) (fun i hi => by rw [add_add]; exact ((HX0.out.below (HWq.out.trans (hb.mono HWq.out.size))).cells (show (2 * j + 1) * 32 + i < 2 * h * 32 by omega))) Tryd.underlying24 rfl (by kernel_rfl))
     ·exact opOb_fn2 ent_two rfl rfl (OpK.tmp rfl) (OpK.tmp rfl) (fun w' hb => (two_any (fun q => X (2 * j * 32 + q)) (fun q => X ((2 * j + 1) * 32 + q)) (fun _ => HXl.out _) (fun _ => HXl.out _) w' (HP.out.below (HWq0.out.trans (hb.mono HWq0.out.size)))).mono fun e w'' ⟨he, hb2⟩ => ⟨_, he, rfl, hb2⟩)
     ·exact opOb_idx rfl rfl (OpK.tmp rfl) (OpK.tmp rfl) (fun w => (run_idxZ (z := 32) w Tryd.underlying32 (by kernel_rfl) ⟨b, 0, none⟩ (by omega)).trans (by rw [add_lit0]))
     ·intro w' hb
      simp only [fin, SF.is, forall_eq]
      simp only [pcX]
      have hs := HSq.out.below hb
      refine wp_storeP 24 (.tmp 43) (.tmp 42) rfl hs 0 rfl (j * 32) 32 (u8v (shaB (catN 32 (fun q => X (2 * j * 32 + q)) (fun q => X ((2 * j + 1) * 32 + q))) 64)) rfl rfl (by kernel_rfl) (by omega) (fun _ _ => rfl) (u8v (lpart (j + 1) X)) l_step ?_
      clear hs hb
      intro wy hs
      have HY := Lib.hid hs
      clear hs
      simp only [seqWp, Act.put]
      go_wp2_with fail
      go_roundw
      case rel => exact ⟨j + 1, by go_num, by omega, HY.out⟩
      case measure => simp [intOf]; omega
    ·obtain rfl : j = h := by omega
     go_wp2_with fail
     go_ret
     exact ⟨b, rfl, by have := HWm.out.size; omega, (HSq.out.row 0 rfl).congr (fun i hi => by simp only [u8v, lpart]; rw [if_pos hi]), HWq0.out⟩
 ·obtain ⟨h, rfl⟩ : ∃ h, n = 2 * h := ⟨n / 2, by omega⟩
  rw [show (2 * h + 1) / 2 = h by omega]
  go_enter Tryd.func52, Tryd.ntmps52
  go_upto_region 3 with (first
   | (refine wpList_boxL rfl 24 _ 3 rfl rfl HS0.out 32 (u8v z) rfl ?_; intro b3 wm hb3 hc3 hs; have HS3 := Lib.hid hs; clear hs)
   | (refine wpList_as rfl 9 rfl (.int .i64 0) ?_ ?_; (· exact ex_bin rfl rfl rfl rfl (fun w => rem2 (2 * h) 0 (by omega) (by omega) w) _)))
  have HWm := Lib.hid (HS3.out.out (by simp; omega))
  have HX0 := Lib.hid (((HB.out.below HWm.out).more HWm.out.size).congr (f' := u8v X) (fun i hi => by rw [HXe.out]; simp only [u8v, catN]; rw [if_pos hi]))
  have hcap := hnc
  obtain ⟨a0, ha0⟩ : ∃ a0 : Addr, a0 = a := ⟨_, rfl⟩
  obtain ⟨c0, hc0⟩ : ∃ c0, c0 = c := ⟨_, rfl⟩
  rw [← ha0] at HX0 ⊢
  rw [← hc0] at hcap ⊢
  clear ha0 hc0
  clear HS3 HS0
  go_wp2_with (first
   | (refine wpList_as rfl 22 rfl (.int .i64 (h : Int)) ?_ ?_; (· exact ex_bin rfl rfl rfl rfl (fun w => quo2 h (by omega) w) _))
   | (refine wpList_makeL rfl 32 (e := 24) (z := .agg (Array.replicate 32 (.int .u8 0))) (k := 32) (bytes := 32) Tryd.underlying32 (by kernel_rfl) (.tmp 22) (.tmp 22) rfl h rfl rfl (u8v (lpart 0 X)) (fun i hi => (made_u8 32 _ (by omega) i hi).trans (congrArg some (by simp [u8v, lpart]))) (by omega) (by omega) (HS.nil wm) ?_; intro b w1 hb1 hc1 hs; have HS1 := Lib.hid hs; clear hs))
  go_loopw [26] (fun i wr => ∃ j : Nat, i = .int .i64 (j : Int) ∧ j ≤ h ∧ HS wm wr [⟨b, 24, h * 32, u8v (lpart j X)⟩]) (fun i _ => h - (intOf i).toNat)
  case atStart => exact ⟨0, rfl, by omega, HS1.out⟩
  case round =>
   clear HS1
   obtain ⟨j, rfl, hj, hs⟩ := hrel
   have HSq := Lib.hid hs
   have HWq := Lib.hid (hs.out (by simp; omega))
   have HWq0 := Lib.hid (HWm.out.trans (HWq.out.mono HWm.out.size))
   clear hs
   by_cases hjn : j < h
   ·go_wp2_with fail
    refine wp_region_factsS (l := [_, _, _, _, _, _, _, _, _, _, _, _, _, _, _]) (tl := []) (B := wr.heap.size) (w0 := wr) [SF.is (.slice (some ⟨b, 0, none⟩) (h) (h)), SF.is (.int .i64 ((j : Nat) : Int)), SF.is (.slice (some a0) (2 * h) (c0)), SF.is (.int .i64 ((j : Nat) : Int)), SF.is (.int .i64 ((2 * j : Nat) : Int)), SF.is (.pointer (some (a0.add (2 * j * 32)))), SF.is (rootV (fun q => X (2 * j * 32 + q))), SF.is (.slice (some a0) (2 * h) (c0)), SF.is (.int .i64 ((j : Nat) : Int)), SF.is (.int .i64 ((2 * j : Nat) : Int)), SF.is (.int .i64 ((2 * j + 1 : Nat) : Int)), SF.is (.pointer (some (a0.add ((2 * j + 1) * 32)))), SF.is (rootV (fun q => X ((2 * j + 1) * 32 + q))), SF.is (rootV (shaB (catN 32 (fun q => X (2 * j * 32 + q)) (fun q => X ((2 * j + 1) * 32 + q))) 64)), SF.is (.pointer (some ⟨b, j * 32, none⟩))] (by kernel_rfl) (by kernel_rfl) rfl (Nat.le_refl _) (Below.refl _ _) ⟨?_, ?_, ?_, ?_, ?_, ?_, ?_, ?_, ?_, ?_, ?_, ?_, ?_, ?_, ?_, trivial⟩ ?_
    ·exact (opOb_move _ rfl (.inl rfl) rfl)
    ·exact (opOb_move _ rfl (.inl rfl) rfl)
    ·exact (opOb_move _ rfl (.inl rfl) rfl)
    ·exact (opOb_move _ rfl (.inl rfl) rfl)
    ·exact opOb_nmul 2 j (by omega) rfl rfl OpK.const (OpK.tmp rfl)
    ·exact opOb_idx rfl rfl (OpK.tmp rfl) (OpK.tmp rfl) (fun w => run_idxZ (z := 32) w Tryd.underlying32 (by kernel_rfl) a0 (by omega))
    ·exact opOb_ld rfl rfl (OpK.tmp rfl) (fun w' hb => run_loadAt_rd w' (a0.add (2 * j * 32)) 32 24 _ (u8v (fun q => X (2 * j * 32 + q))) (fun i hi => by rw [add_add]; exact ((HX0.out.below (HWq.out.trans (hb.mono HWq.out.size))).cells (show 2 * j * 32 + i < 2 * h * 32 by omega))) Tryd.underlying24 rfl (by kernel_rfl))
    ·exact (opOb_move _ rfl (.inl rfl) rfl)
    ·exact (opOb_move _ rfl (.inl rfl) rfl)
    ·exact opOb_nmul 2 j (by omega) rfl rfl OpK.const (OpK.tmp rfl)
    ·exact opOb_nadd (2 * j) 1 (by omega) rfl rfl (OpK.tmp rfl) OpK.const
    ·exact opOb_idx rfl rfl (OpK.tmp rfl) (OpK.tmp rfl) (fun w => run_idxZ (z := 32) w Tryd.underlying32 (by kernel_rfl) a0 (by omega))
    ·exact opOb_ld rfl rfl (OpK.tmp rfl) (fun w' hb => run_loadAt_rd w' (a0.add ((2 * j + 1) * 32)) 32 24 _ (u8v (fun q => X ((2 * j + 1) * 32 + q))) (fun i hi => by rw [add_add]; exact ((HX0.out.below (HWq.out.trans (hb.mono HWq.out.size))).cells (show (2 * j + 1) * 32 + i < 2 * h * 32 by omega))) Tryd.underlying24 rfl (by kernel_rfl))
    ·exact opOb_fn2 ent_two rfl rfl (OpK.tmp rfl) (OpK.tmp rfl) (fun w' hb => (two_any (fun q => X (2 * j * 32 + q)) (fun q => X ((2 * j + 1) * 32 + q)) (fun _ => HXl.out _) (fun _ => HXl.out _) w' (HP.out.below (HWq0.out.trans (hb.mono HWq0.out.size)))).mono fun e w'' ⟨he, hb2⟩ => ⟨_, he, rfl, hb2⟩)
    ·exact opOb_idx rfl rfl (OpK.tmp rfl) (OpK.tmp rfl) (fun w => (run_idxZ (z := 32) w Tryd.underlying32 (by kernel_rfl) ⟨b, 0, none⟩ (by omega)).trans (by rw [add_lit0]))
    ·intro w' hb
     simp only [fin, SF.is, forall_eq]
     simp only [pcX]
     have hs := HSq.out.below hb
     refine wp_storeP 24 (.tmp 43) (.tmp 42) rfl hs 0 rfl (j * 32) 32 (u8v (shaB (catN 32 (fun q => X (2 * j * 32 + q)) (fun q => X ((2 * j + 1) * 32 + q))) 64)) rfl rfl (by kernel_rfl) (by omega) (fun _ _ => rfl) (u8v (lpart (j + 1) X)) l_step ?_
     clear hs hb
     intro wy hs
     have HY := Lib.hid hs
     clear hs
     simp only [seqWp, Act.put]
     go_wp2_with fail
     go_roundw
     case rel => exact ⟨j + 1, by go_num, by omega, HY.out⟩
     case measure => simp [intOf]; omega
   ·obtain rfl : j = h := by omega
    go_wp2_with fail
    go_ret
    exact ⟨b, rfl, by have := HWm.out.size; omega, (HSq.out.row 0 rfl).congr (fun i hi => by simp only [u8v, lpart]; rw [if_pos hi]), HWq0.out⟩
end Go.Proofs.YtomilckcgmhfcaaDoor
/- merkle.Tree and merkle.Zero. -/
namespace Go.Proofs.YtomilckcgmhfcaaDoor
set_option maxRecDepth 40000
open Go.RowKit
theorem rootV_ext {f g : Nat → Nat} (h : ∀ i, i < 32 → f i = g i) : rootV f = rootV g := congrArg Value.agg (arr_congr fun i hi => congrArg (fun k : Nat => Value.int .u8 (k : Int)) (h i hi))
theorem zr_at {k i : Nat} (hi : i < 32) : u8v zrL (k * 32 + i) = u8v (zrN k) i := by
 simp only [u8v]; rw [zrL_at k i hi]
theorem arr1 (f g : Nat → Nat) (v : Value) (h : ∀ i, i < 32 → f i = g i) : Ending.returned (.tuple #[.agg (arr 32 (u8v f)), v]) = .returned (.tuple #[rootV g, v]) := congrArg (fun r => Ending.returned (.tuple #[r, v])) (rootV_ext h)
theorem levN_lt {x : Nat → Nat} (hx : ∀ i, x i < 256) (d i : Nat) : levN d x i < 256 := by
 cases d with
 | zero => exact hx i
 | succ d => rw [levN_succ]; exact shaB_lt _ _ _
set_option maxHeartbeats 8000000 in
theorem tree_ok (n c : Nat) (A : Option Addr) (x : Nat → Nat) (l : Nat) (w : World) (hb : Rd w w.heap.size A (n * 32) (u8v x)) (hx : ∀ i, x i < 256) (hnc : n ≤ c) (hl : l ≤ 1099511627776) (hn : n ≤ l) (hp : ShaPkg w) :
  Calls Tryd.prog 25 #[.slice A n c, .int .i64 (l : Int)] w fun e w' => e = .returned (.tuple #[rootV (treeN (dep l) n x), .int .i64 0]) ∧ Below w.heap.size w w' := by
 obtain ⟨D, hD⟩ : ∃ D, D = dep l := ⟨_, rfl⟩
 have hD40 : D ≤ 40 := by rw [hD]; exact dep_le (k := 40) (by omega)
 have hDl : n ≤ 2 ^ D := by rw [hD]; exact Nat.le_trans hn (dep_ge l)
 have HDp := Lib.hid (depth_look l hl)
 rw [← hD] at HDp ⊢
 have HX := Lib.hid hb
 have HXl := Lib.hid hx
 have HP := Lib.hid hp
 have HS0 := Lib.hid (HS.nil w)
 clear hb hx hp hD
 by_cases hn0 : n = 0
 ·subst hn0
  clear hDl
  go_enter Tryd.func25, Tryd.ntmps25
  go_wp2_with (first
   | (refine wpList_allocL rfl 24 4 rfl rfl HS0.out (Array.replicate 32 (.int .u8 0)) (by kernel_rfl) 32 (u8v fun _ => 0) (by rfl) (zero_at 32 (.int .u8 0)) ?_; intro b4 w4 hb4 hc4 hs4; have HS4 := Lib.hid hs4; clear hs4)
   | (go_at_call 50; refine (HDp.out _).mono ?_; rintro e w5 ⟨rfl, hw⟩; subst hw)
   | (go_at_call 51; refine (zeros_look D hD40 _ (HP.out.below (HS4.out.out (by simp; omega)))).mono ?_; rintro e w6 ⟨bz, rfl, hbz, hrz, hb6⟩; have HS6 := Lib.hid ((HS4.out.below hb6).add hrz (by have := HS4.out.size; omega) (by have := HS4.out.lt 0 rfl; simp; omega)); clear hrz hb6)
   | (refine wpList_as rfl 32 rfl (.pointer (some ⟨bz, D * 32, none⟩)) ?_ ?_; (· exact ex_idx rfl rfl rfl (fun w => (run_idxZ (z := 32) w Tryd.underlying32 (by kernel_rfl) ⟨bz, 0, none⟩ (by omega)).trans (by rw [add_lit0])) _))
   | (refine wpList_load_part rfl 24 _ rfl bz (D * 32) 32 (u8v (zrN D)) rfl _ (fun i hi => (HS6.out.cell 0 (D * 32 + i) rfl (show D * 32 + i < (D + 1) * 32 by omega)).trans (congrArg some (zr_at hi))) Tryd.underlying24 rfl (by kernel_rfl) _ rfl ?_)
   | (refine wpList_storeH rfl 24 (.tmp 4) (.tmp 33) rfl HS6.out 1 rfl (u8v (zrN D)) rfl rfl (by kernel_rfl) (fun _ _ => rfl) ?_; intro wy hs; have HY := Lib.hid hs; clear hs))
  exact ret_rowTmp rfl (HY.out.row 1 rfl) _ (.int .i64 0) rfl rfl Tryd.underlying24 rfl (by kernel_rfl) rfl ⟨by rw [treeN_zero], HY.out.out (by simp; have := HS4.out.size; omega)⟩
 ·obtain ⟨P, hPd⟩ : ∃ P, P = padN (n * 32) x := ⟨_, rfl⟩
  have HPl := Lib.hid (show ∀ i, P i < 256 by rw [hPd]; exact padN_lt HXl.out)
  have HE := Lib.hid (arr1 (levN D P) (treeN D n x) (.int .i64 0) (fun i hi => by rw [tree_lev D n x hDl i hi, hPd]))
  have HUp := Lib.hid (fun d => up_lev d n x (levN d P) (by rw [hPd]; exact fun _ _ => rfl))
  rw [← hPd] at HUp
  have HX2 := Lib.hid (HX.out.congr (f' := u8v P) (fun i hi => by rw [hPd]; simp only [u8v, padN]; rw [if_pos hi]))
  have hc1 := cnt_one D n (by omega) hDl
  have hn00 : ((n : Int) == 0) = false := by rw [beq_eq_false_iff_ne]; omega
  clear hPd HX HXl hDl
  go_enter Tryd.func25, Tryd.ntmps25
  go_wp2_with (first
   | (refine wpList_allocL rfl 24 4 rfl rfl HS0.out (Array.replicate 32 (.int .u8 0)) (by kernel_rfl) 32 (u8v fun _ => 0) (by rfl) (zero_at 32 (.int .u8 0)) ?_; intro b4 w4 hb4 hc4 hs4; have HS4 := Lib.hid hs4; clear hs4)
   | (go_at_call 50; refine (HDp.out _).mono ?_; rintro e w5 ⟨rfl, hw⟩; subst hw)
   | (go_at_call 51; refine (zeros_look D hD40 _ (HP.out.below (HS4.out.out (by simp; omega)))).mono ?_; rintro e w6 ⟨bz, rfl, hbz, hrz, hb6⟩; have HS6 := Lib.hid ((HS4.out.below hb6).add hrz (by have := HS4.out.size; omega) (by have := HS4.out.lt 0 rfl; simp; omega)); have hbzw : w.heap.size ≤ bz := (by have := HS4.out.size; omega); clear hrz hb6))
  go_loopw [0, 35] (fun ch i wr => ∃ (d : Nat) (A' : Option Addr) (c' : Nat), ch = .slice A' (cnt d n) c' ∧ i = .int .i64 (d : Int) ∧ d ≤ D ∧ cnt d n ≤ c' ∧ Rd wr wr.heap.size A' (cnt d n * 32) (u8v (levN d P)) ∧ HS w wr [⟨bz, 24, (D + 1) * 32, u8v zrL⟩, ⟨b4, 24, 32, u8v fun _ => 0⟩]) (fun _ i _ => D - (intOf i).toNat)
  case atStart => exact ⟨0, A, c, rfl, rfl, by omega, hnc, (HX2.out.below (HS6.out.out (by simp; omega))).more HS6.out.size, HS6.out⟩
  case round =>
   clear HS6 HS4 HS0 HX2 HDp
   obtain ⟨d, A', c', rfl, rfl, hd, hcc, hrd, hs⟩ := hrel
   have HR := Lib.hid hrd
   have HSq := Lib.hid hs
   have HWq := Lib.hid (hs.out (by simp; omega))
   have hcp := cnt_pos d n (by omega)
   have hcl := cnt_le d n
   clear hrd hs
   by_cases hdD : d < D
   ·have HUd := Lib.hid (HUp.out d)
    obtain ⟨m, hm⟩ : ∃ m, m = cnt d n := ⟨_, rfl⟩
    have hm2 : cnt (d + 1) n = (m + 1) / 2 := by rw [hm]; rfl
    rw [hm2] at HUd
    rw [← hm] at HUd HR hcp hcl hcc ⊢
    clear hm
    go_wp2_with (first
     | (refine wpList_as rfl 41 rfl (.pointer (some ⟨bz, d * 32, none⟩)) ?_ ?_; (· exact ex_idx rfl rfl rfl (fun w => (run_idxZ (z := 32) w Tryd.underlying32 (by kernel_rfl) ⟨bz, 0, none⟩ (by omega)).trans (by rw [add_lit0])) _))
     | (refine wpList_load_part rfl 24 _ rfl bz (d * 32) 32 (u8v (zrN d)) rfl _ (fun i hi => (HSq.out.cell 0 (d * 32 + i) rfl (show d * 32 + i < (D + 1) * 32 by omega)).trans (congrArg some (zr_at hi))) Tryd.underlying24 rfl (by kernel_rfl) _ rfl ?_)
     | (go_at_call 52; refine (up_look m c' A' (levN d P) (zrN d) _ HR.out (levN_lt HPl.out d) (zrN_lt d) hcc hcp (by omega) (HP.out.below HWq.out)).mono ?_; rintro e w7 ⟨b7, rfl, hb7, hr7, hbl7⟩; have HR7 := Lib.hid (hr7.congr (fun i hi => congrArg (fun k : Nat => Value.int .u8 (k : Int)) (HUd.out i hi))); have HS7 := Lib.hid (HSq.out.below hbl7); clear hr7 hbl7))
    go_roundw
    case rel => exact ⟨d + 1, some ⟨b7, 0, none⟩, (m + 1) / 2, congrArg (fun k => Value.slice (some ⟨b7, 0, none⟩) k ((m + 1) / 2)) hm2.symm, by go_num, by omega, by rw [hm2]; exact Nat.le_refl _, by rw [hm2]; exact Rd.of_row HR7.out (Nat.le_refl _) HR7.out.lt, HS7.out⟩
    case measure => simp [intOf]; omega
   ·obtain rfl : d = D := by omega
    rw [hc1] at HR hcp hcl hcc ⊢
    obtain ⟨ad, hA, _, _⟩ := HR.out (by omega)
    subst hA
    go_wp2_with (first
     | (refine wpList_as rfl 46 rfl (.pointer (some (ad.add (0 * 32)))) ?_ ?_; (· exact ex_idx rfl rfl rfl (fun w => run_idxZ (z := 32) (k := 0) w Tryd.underlying32 (by kernel_rfl) ad (by omega)) _))
     | (refine wpList_load_rd rfl 24 _ rfl 32 _ Tryd.underlying24 rfl (by kernel_rfl) (ad.add (0 * 32)) rfl (u8v (levN d P)) (fun q hq => by rw [add_add]; exact (HR.out.cell_ (show 0 * 32 + q < 1 * 32 by omega)).trans (by rw [Nat.zero_mul, Nat.zero_add])) ?_)
     | (refine wpList_storeH rfl 24 (.tmp 4) (.tmp 47) rfl HSq.out 1 rfl (u8v (levN d P)) rfl rfl (by kernel_rfl) (fun _ _ => rfl) ?_; intro wy hs; have HY := Lib.hid hs; clear hs))
    exact ret_rowTmp rfl (HY.out.row 1 rfl) _ (.int .i64 0) rfl rfl Tryd.underlying24 rfl (by kernel_rfl) rfl ⟨HE.out, HY.out.out (by simp; omega)⟩
set_option maxHeartbeats 4000000 in
theorem zero_ok (d : Nat) (hd : d ≤ 40) (w : World) (hp : ShaPkg w) :
  Calls Tryd.prog 79 #[.int .i64 (d : Int)] w fun e w' => e = .returned (.tuple #[rootV (zrN d), .int .i64 0]) ∧ Below w.heap.size w w' := by
 have HS0 := Lib.hid (HS.nil w)
 have HP := Lib.hid hp
 clear hp
 go_enter Tryd.func79, Tryd.ntmps79
 go_wp2_with (first
  | (refine wpList_allocL rfl 24 2 rfl rfl HS0.out (Array.replicate 32 (.int .u8 0)) (by kernel_rfl) 32 (u8v fun _ => 0) (by rfl) (zero_at 32 (.int .u8 0)) ?_; intro b4 w4 hb4 hc4 hs4; have HS4 := Lib.hid hs4; clear hs4)
  | (go_at_call 51; refine (zeros_look d hd _ (HP.out.below (HS4.out.out (by simp; omega)))).mono ?_; rintro e w6 ⟨bz, rfl, hbz, hrz, hb6⟩; have HS6 := Lib.hid ((HS4.out.below hb6).add hrz (by have := HS4.out.size; omega) (by have := HS4.out.lt 0 rfl; simp; omega)); clear hrz hb6)
  | (refine wpList_as rfl 14 rfl (.pointer (some ⟨bz, d * 32, none⟩)) ?_ ?_; (· exact ex_idx rfl rfl rfl (fun w => (run_idxZ (z := 32) w Tryd.underlying32 (by kernel_rfl) ⟨bz, 0, none⟩ (by omega)).trans (by rw [add_lit0])) _))
  | (refine wpList_load_part rfl 24 _ rfl bz (d * 32) 32 (u8v (zrN d)) rfl _ (fun i hi => (HS6.out.cell 0 (d * 32 + i) rfl (show d * 32 + i < (d + 1) * 32 by omega)).trans (congrArg some (zr_at hi))) Tryd.underlying24 rfl (by kernel_rfl) _ rfl ?_)
  | (refine wpList_storeH rfl 24 (.tmp 2) (.tmp 15) rfl HS6.out 1 rfl (u8v (zrN d)) rfl rfl (by kernel_rfl) (fun _ _ => rfl) ?_; intro wy hs; have HY := Lib.hid hs; clear hs))
 exact ret_rowTmp rfl (HY.out.row 1 rfl) _ (.int .i64 0) rfl rfl Tryd.underlying24 rfl (by kernel_rfl) rfl ⟨rfl, HY.out.out (by simp; have := HS4.out.size; omega)⟩
end Go.Proofs.YtomilckcgmhfcaaDoor
/- Numbers out of bytes, by the program and by the reference; flips and bits. -/
namespace Go.Proofs.YtomilckcgmhfcaaDoor
set_option maxRecDepth 40000
open Go.RowKit
/-- A number is loaded from where it lies. -/
theorem run_ld1 {P : Program} (w : World) (ad : Addr) (ty : TypeId) (k : IntKind) (v : Value) (h : w.cell? ad = some v) (hu : P.underlying ty = some (.int k)) : (Instr.loadAt ty (.pointer (some ad))).run P w = .ok v w := by
 simp only [Instr.loadAt, Instr.sureAddr, Sem.run_bind, Sem.run_pure, Result.andThen]
 have hagg : (isAgg ty).run P w = .ok false w := by
  unfold isAgg
  rw [Sem.run_bind, run_underlying hu w]
  rfl
 simp [loadVar, Sem.run_bind, hagg, h]
theorem ex_ld1 {P : Program} {w : World} {o : Oper} {a : Act} {ty : TypeId} {x : Operand} {ad : Addr} {v : Value} (k : IntKind) (ho : o.op = .load ty x) (hx : a.eval x = .pointer (some ad)) (hu : P.underlying ty = some (.int k)) (h : w.cell? ad = some v) : (execOp a.eval o).run P w = .ok (.value v) w := by
 unfold execOp
 rw [ho]
 simp only [hx]
 simp [run_ld1 w ad ty k v h hu]
namespace ShufFn
theorem or_add (a b k : Nat) (ha : a < 2 ^ k) : a ||| b * 2 ^ k = a + b * 2 ^ k := by
 rw [Nat.or_comm, Nat.mul_comm, ← Nat.two_pow_add_eq_or_of_lt ha, Nat.add_comm]
theorem orU (a b : Nat) (ha : a < 18446744073709551616) (hb : b < 18446744073709551616) (w : World) : (binOp .or 22 (.int .u64 (a : Int)) (.int .u64 (b : Int))).run Tryd.prog w = .ok (.int .u64 ((a ||| b : Nat) : Int)) w := by
 have h1 : a ||| b < 18446744073709551616 := Nat.or_lt_two_pow (n := 64) ha hb
 have e : bits .or .u64 (a : Int) (b : Int) = ((a ||| b : Nat) : Int) := by
  show IntKind.u64.wrap ((BitVec.ofInt 64 (a : Int) ||| BitVec.ofInt 64 (b : Int)).toNat : Int) = _
  rw [BitVec.toNat_or, BitVec.ofInt_natCast, BitVec.ofInt_natCast, BitVec.toNat_ofNat, BitVec.toNat_ofNat, Nat.mod_eq_of_lt ha, Nat.mod_eq_of_lt hb]
  rw [IntKind.wrap_u64]
  omega
 simp [go_sem, e]
theorem andU (m c r : Nat) (h : m < 18446744073709551616) (hc : c < 18446744073709551616) (hr : m &&& c = r) (w : World) : (binOp .and 22 (.int .u64 (m : Int)) (.int .u64 (c : Int))).run Tryd.prog w = .ok (.int .u64 (r : Int)) w := by
 have hl : m &&& c < 18446744073709551616 := Nat.lt_of_le_of_lt Nat.and_le_left h
 have h2 : bits .and .u64 (m : Int) (c : Int) = (r : Int) := by
  show IntKind.u64.wrap ((BitVec.ofInt 64 (m : Int) &&& BitVec.ofInt 64 (c : Int)).toNat : Int) = _
  rw [BitVec.toNat_and, BitVec.ofInt_natCast, BitVec.ofInt_natCast, BitVec.toNat_ofNat, BitVec.toNat_ofNat, Nat.mod_eq_of_lt h, Nat.mod_eq_of_lt hc, hr, IntKind.wrap_u64]
  omega
 simp [go_sem, h2]
theorem subU (a b : Nat) (h : b ≤ a) (w : World) (ha : a < 18446744073709551616) : (binOp .sub 22 (.int .u64 (a : Int)) (.int .u64 (b : Int))).run Tryd.prog w = .ok (.int .u64 ((a - b : Nat) : Int)) w := by
 simp [go_sem, IntKind.wrap, IntKind.bits, IntKind.signed]
 omega
end ShufFn
open ShufFn
end Go.Proofs.YtomilckcgmhfcaaDoor
