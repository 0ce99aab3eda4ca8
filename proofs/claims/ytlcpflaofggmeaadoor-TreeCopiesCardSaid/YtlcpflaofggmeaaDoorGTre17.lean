/- A part of what the proofs stand on: TreeCopy, TreeRoot0, TreeRootSt, Clear. -/
import Derived.Test.YtlcpflaofggmeaaDoorGTre16
import Derived.Test.YtlcpflaofggmeaaDoorGTre11
/- A tree's copy. (Printed by a program of mine.) -/
namespace Go.Proofs.YtlcpflaofggmeaaDoor
set_option maxRecDepth 40000
open Go.RowKit
/-- The cells of a copy that is being made. -/
def cpF (l D : Nat) (zA : Option Addr) (zc : Nat) (dA : Option Addr) (dn dc : Nat) (Lb : Option Addr) (d Lc : Nat) : Nat → Value := fun i => if i = 0 then .int .i64 (l : Int) else if i = 1 then .slice zA (D + 1) zc else if i = 2 then .slice Lb d Lc else if i = 3 then .slice dA dn dc else .int .i64 0
/-- The slices of levels. -/
def levF (lm : Nat → Nat) (lA : Nat → Option Addr) (lk : Nat → Nat) : Nat → Value := fun k => .slice (lA k) (lm k) (lk k)
def upd {α : Type} (f : Nat → α) (d : Nat) (x : α) : Nat → α := fun k => if k = d then x else f k
/-- The first d levels are cloned, each by itself. -/
structure Clones (w : World) (base d : Nat) (lm : Nat → Nat) (g : Nat → Nat → Nat) (lA : Nat → Option Addr) (lk : Nat → Nat) : Prop where
  own : ∀ k, k < d → OwnZ w base 30 32 (lA k) (lm k) (lk k) (u8v (g k))
  apart : ∀ k k' b, k < d → k' < d → OnA (lA k) b → OnA (lA k') b → k = k'
  base_le : base ≤ w.heap.size
namespace TreeCopy
theorem ent_c64 (vs : Array Value) (w : World) : (callFunc 32 vs).run Tryd.prog w = .ok (.enter 32 vs) w := by kernel_rfl
theorem ent_cR (vs : Array Value) (w : World) : (callFunc 33 vs).run Tryd.prog w = .ok (.enter 33 vs) w := by kernel_rfl
theorem own_neO {w : World} {base base' z z' n n' c c' : Nat} {e e' : TypeId} {A A' : Option Addr} {f f' : Nat → Value} (h : OwnZ w base e z A n c f) (h' : OwnZ w base' e' z' A' n' c' f') (hne : e ≠ e') : ∀ ad, A = some ad → some ad.block ≠ A'.map (·.block) := fun ad e1 e2 => by
  cases hA : A' with
  | none => rw [hA] at e2; cases e2
  | some ad' =>
    subst e1
    rw [hA] at e2 h'
    injection e2 with e2
    obtain ⟨F, hr, _⟩ := h.row
    obtain ⟨F', hr', _⟩ := h'.row
    exact row_ne hr hr' hne e2
theorem own_row {w : World} {base z n c b m : Nat} {e t : TypeId} {A : Option Addr} {f F : Nat → Value} (h : OwnZ w base e z A n c f) (hr : w.rowIs b t m F) (hne : e ≠ t) : ∀ ad, A = some ad → some ad.block ≠ some b := fun ad e1 e2 => by
  subst e1
  injection e2 with e2
  obtain ⟨G, hr', _⟩ := h.row
  exact row_ne hr' hr hne e2
end TreeCopy
open TreeCopy
section
variable {w w' : World} {base d : Nat} {lm : Nat → Nat} {g : Nat → Nat → Nat} {lA : Nat → Option Addr} {lk : Nat → Nat}
theorem Clones.all (h : Clones w base d lm g lA lk) (hb : Below w.heap.size w w') : Clones w' base d lm g lA lk := ⟨fun k hk => (h.own k hk).all hb, h.apart, Nat.le_trans h.base_le hb.size⟩
theorem Clones.kept (h : Clones w base d lm g lA lk) {A : Option Addr} {n c : Nat} {f : Nat → Value} {b2 : Nat} (hg : w.grownBy w' (A.map (·.block))) (ho : OwnZ w b2 22 1 A n c f) : Clones w' base d lm g lA lk :=
  ⟨fun k hk => (h.own k hk).kept hg (own_neO (h.own k hk) ho (by decide)), h.apart, Nat.le_trans h.base_le hg.size⟩
theorem Clones.keptR (h : Clones w base d lm g lA lk) {b m : Nat} {F : Nat → Value} (hg : w.grownBy w' (some b)) (hr : w.rowIs b 58 m F) : Clones w' base d lm g lA lk :=
  ⟨fun k hk => (h.own k hk).kept hg (own_row (h.own k hk) hr (by decide)), h.apart, Nat.le_trans h.base_le hg.size⟩
theorem Clones.more (h : Clones w base d lm g lA lk) {A : Option Addr} {c B : Nat} (ho : OwnZ w base 30 32 A (lm d) c (u8v (g d))) (hf : ∀ b, OnA A b → B ≤ b) (hB : ∀ k b, k < d → OnA (lA k) b → b < B) : Clones w base (d + 1) lm g (upd lA d A) (upd lk d c) where
  own := fun k hk => by
    unfold upd
    by_cases e : k = d
    · subst e; rw [if_pos rfl, if_pos rfl]; exact ho
    · rw [if_neg e, if_neg e]; exact h.own k (by omega)
  apart := fun k k' b hk hk' h1 h2 => by
    unfold upd at h1 h2
    by_cases e : k = d <;> by_cases e' : k' = d
    · omega
    · rw [if_pos e] at h1; rw [if_neg e'] at h2
      have := hf b h1; have := hB k' b (by omega) h2; omega
    · rw [if_neg e] at h1; rw [if_pos e'] at h2
      have := hf b h2; have := hB k b (by omega) h1; omega
    · rw [if_neg e] at h1; rw [if_neg e'] at h2
      exact h.apart k k' b (by omega) (by omega) h1 h2
  base_le := h.base_le
end
namespace TreeCopy
theorem run_bs1_S (A : Option Addr) (n c : Nat) (w : World) : (Instr.buildSlice 55 1 #[(0, .slice A n c)]).run Tryd.prog w = .ok (.slice (some ⟨w.heap.size, 0, none⟩) 1 1) (w.alloc (.cells #[.slice A n c] 22)) := by simp [go_sem]
theorem stSlL (A : Option Addr) (n c : Nat) (w : World) (ad : Addr) (u : Value) (h : w.cell? ad = some u) (hf : w.frozen? ad = false) : (Instr.storeAt 55 (.pointer (some ad)) (.slice A n c)).run Tryd.prog w = .ok () (w.setCell ad (.slice A n c)) := by
  simp [go_sem, h, hf]
theorem cat_lev (d : Nat) (lm : Nat → Nat) (lA : Nat → Option Addr) (lk : Nat → Nat) (A : Option Addr) (c : Nat) : ∀ i, i < (d + 1) * 1 → catF (d * 1) (levF lm lA lk) (fun _ => .slice A (lm d) c) i = levF lm (upd lA d A) (upd lk d c) i := fun i hi => by
  simp only [catF, levF, upd, Nat.mul_one]
  by_cases h : i < d
  · rw [if_pos h, if_neg (by omega), if_neg (by omega)]
  · obtain rfl : i = d := by omega
    rw [if_neg h, if_pos rfl, if_pos rfl]
theorem cp_step (l D : Nat) (zA : Option Addr) (zc : Nat) (dA : Option Addr) (dn dc : Nat) (Lb Lb' : Option Addr) (d d' Lc Lc' : Nat) : ∀ j, j < 5 → (if j = 2 then .slice Lb' d' Lc' else cpF l D zA zc dA dn dc Lb d Lc j) = cpF l D zA zc dA dn dc Lb' d' Lc' j := fun j _ => by
  unfold cpF
  by_cases h : j = 2
  · subst h; rfl
  · simp only [if_neg h]
theorem built_cp (l : Int) (zA : Option Addr) (n zc : Nat) (dA : Option Addr) (dn dc : Nat) : Tryd.prog.built 58 [(0, .int .i64 l), (1, .slice zA n zc), (3, .slice dA dn dc)] = some #[.int .i64 l, .slice zA n zc, .slice none 0 0, .slice dA dn dc, .int .i64 0] := by kernel_rfl
theorem cp_arr (l D : Nat) (zA : Option Addr) (zc : Nat) (dA : Option Addr) (dn dc : Nat) : (#[.int .i64 (l : Int), .slice zA (D + 1) zc, .slice none 0 0, .slice dA dn dc, .int .i64 0] : Array Value) = arr 5 (cpF l D zA zc dA dn dc none 0 0) := by
  unfold arr cpF
  rfl
theorem wp_bs1v {P : Program} {o : Oper} {a : Act} {w : World} {K : Act → World → Prop} {Q : Exit → Act → World → Prop} {t e : TypeId} (x : Operand) (v : Value) (ho : o.op = .buildSlice t 1 #[(0, x)]) (hx : a.eval x = v) (hr : ∀ w : World, (Instr.buildSlice t 1 #[(0, v)]).run P w = .ok (.slice (some ⟨w.heap.size, 0, none⟩) 1 1) (w.alloc (.cells #[v] e)))
    (hK : ∀ b w', w.heap.size ≤ b → w'.rowIs b e 1 (fun _ => v) → Below w.heap.size w w' → K (a.put o.dst (.slice (some ⟨b, 0, none⟩) 1 1)) w') : o.wp P a w K Q := by
  have hrun : (execOp a.eval o).run P w = .ok (.value (.slice (some ⟨w.heap.size, 0, none⟩) 1 1)) (w.alloc (.cells #[v] e)) := by
    unfold execOp
    rw [ho]
    simp only [List.map_toArray, List.map_cons, List.map_nil, hx]
    simp [hr w]
  unfold Oper.wp
  rw [hrun]
  exact hK _ _ (Nat.le_refl _) ⟨#[v], heap_alloc_new w _, rfl, fun i hi => match i, hi with | 0, _ => rfl⟩ ((Below.refl _ _).alloc (Nat.le_refl _) _)
theorem ex_build {P : Program} {o : Oper} {a : Act} {w : World} (t : TypeId) (parts : Array (Nat × Operand)) (ho : o.op = .build t parts) (vs : List (Nat × Value)) (hvs : parts.toList.map (fun p => (p.1, a.eval p.2)) = vs) (cs : Array Value) (hb : P.built t vs = some cs) : (execOp a.eval o).run P w = .ok (.value (.agg cs)) w := by
  have hvs' : (parts.map fun (i, x) => (i, a.eval x)).toList = vs := by rw [← hvs]; simp
  subst hvs'
  unfold execOp
  simp only [ho, Sem.run_bind, run_build w t _ cs hb, Result.andThen_ok]
  rfl
theorem wp_boxL {P : Program} {o : Oper} {a : Act} {w : World} {K : Act → World → Prop} {Q : Exit → Act → World → Prop} (ty : TypeId) (x : Operand) (ho : o.op = .box ty x) (n : Nat) (f : Nat → Value) (hx : a.eval x = .agg (arr n f)) (hK : ∀ b w', w.heap.size ≤ b → w'.rowIs b ty n f → Below w.heap.size w w' → K (a.put o.dst (.pointer (some ⟨b, 0, none⟩))) w') : o.wp P a w K Q := by
  have hrun : (execOp a.eval o).run P w = .ok (.value (.pointer (some ⟨w.heap.size, 0, none⟩))) (w.alloc (.cells (arr n f) ty)) := by
    unfold execOp
    rw [ho]
    simp only [hx]
    simp [Instr.box, newVar, Value.cells, go_sem]
  unfold Oper.wp
  rw [hrun]
  exact hK _ _ (Nat.le_refl _) ⟨arr n f, heap_alloc_new w _, size_arr _ _, fun i hi => arr_at _ _ i hi⟩ ((Below.refl _ _).alloc (Nat.le_refl _) _)
theorem ixL (w : World) (b n c k : Nat) (hk : k < n) : (Instr.indexAt 55 (.slice (some ⟨b, 0, none⟩) n c) (.int .i64 (k : Int))).run Tryd.prog w = .ok (.pointer (some ⟨b, k, none⟩)) w := by
  have h := run_idxZ (z := 1) (k := k) (P := Tryd.prog) (c := c) w Tryd.underlying55 (by kernel_rfl) ⟨b, 0, none⟩ hk
  rw [add_lit0, Nat.mul_one] at h
  exact h
theorem cnt_leN (n : Nat) : ∀ d, cnt d n ≤ n := by
  intro d
  induction d with
  | zero => exact Nat.le_refl _
  | succ d ih => rw [cnt]; omega
theorem cp_st {v v2 : TV} {n : Nat} {x : Nat → Nat} (h : TSt v n x) (e1 : v2.lm = v.lm) (e2 : v2.g = v.g) (e3 : v2.D = v.D) (e4 : v2.lim = v.lim) (e5 : v2.dn = v.dn) (e6 : v2.dw = v.dw) : TSt v2 n x where
  n0 := by rw [e1]; exact h.n0
  x0 := by rw [e2]; exact h.x0
  lev := by rw [e1, e2, e3, e5, e6]; exact h.lev
  nle := by rw [e4]; exact h.nle
  lim := by rw [e4]; exact h.lim
  dep := by rw [e4, e3]; exact h.dep
  D30 := by rw [e3]; exact h.D30
  dw := by rw [e5, e6]; exact h.dw
  dn := by rw [e5]; exact h.dn
  g8 := by rw [e2]; exact h.g8
  tn := by rw [e5, e6]; exact h.tn
section
variable {w w' w5 : World} {base lim D T2 lb2 zc Lc dn c20 : Nat} {zA A20 : Option Addr} {dw lm : Nat → Nat} {lA' : Nat → Option Addr} {lk' : Nat → Nat} {g : Nat → Nat → Nat}
theorem cp_new (hT : w.heap.size ≤ T2) (h5 : w.heap.size ≤ w5.heap.size) (hq : OwnZ w' w.heap.size 65 1 A20 dn c20 (u64v dw)) (hl : OwnZ w' w5.heap.size 22 1 (some ⟨lb2, 0, none⟩) (D + 1) Lc (levF lm lA' lk')) (hc : Clones w' w5.heap.size (D + 1) lm g lA' lk') :
    ∀ b, TV.own ⟨lim, D, zA, zc, lb2, Lc, A20, dn, c20, dw, 0, lA', lm, lk', g⟩ T2 b → w.heap.size ≤ b := fun b ⟨r, hr⟩ => by
  match r, hr with
  | 0, hr => rw [show b = T2 from hr]; exact hT
  | 1, hr => rw [show b = lb2 from hr]; exact Nat.le_trans h5 (hl.base_le _ rfl).1
  | 2, hr => exact (hq.on hr).1
  | k + 3, hr => exact Nat.le_trans h5 ((hc.own k (Nat.lt_succ_of_le hr.1)).on hr.2).1
theorem cp_tm (hbase : base ≤ w.heap.size) (hT : w.heap.size ≤ T2) (h5 : w.heap.size ≤ w5.heap.size) (hs : HS w w' [⟨T2, 58, 5, cpF lim D zA zc A20 dn c20 (some ⟨lb2, 0, none⟩) (D + 1) Lc⟩]) (hq : OwnZ w' w.heap.size 65 1 A20 dn c20 (u64v dw)) (hl : OwnZ w' w5.heap.size 22 1 (some ⟨lb2, 0, none⟩) (D + 1) Lc (levF lm lA' lk'))
    (hc : Clones w' w5.heap.size (D + 1) lm g lA' lk') (hz : Rd w' w'.heap.size zA ((D + 1) * 32) (u8v zrsN)) (hzb : ∀ b, OnA zA b → base ≤ b) (hzl : ∀ b, OnA zA b → b < w.heap.size) : TM w' base T2 ⟨lim, D, zA, zc, lb2, Lc, A20, dn, c20, dw, 0, lA', lm, lk', g⟩ := by
  have hrow : w'.rowIs T2 58 5 (cpF lim D zA zc A20 dn c20 (some ⟨lb2, 0, none⟩) (D + 1) Lc) := hs.row 0 rfl
  have hlb := (hl.base_le _ rfl).1
  have hnew := cp_new (lim := lim) (zA := zA) (zc := zc) hT h5 hq hl hc
  obtain ⟨F, hF, hF2, _⟩ := hl.row
  have o : ∀ k, k ≤ D → OwnZ w' w5.heap.size 30 32 (lA' k) (lm k) (lk' k) (u8v (g k)) := fun k hk => hc.own k (Nat.lt_succ_of_le hk)
  have t01 : T2 ≠ lb2 := row_ne hrow hF (by decide)
  have t02 : ∀ b, OnA A20 b → b ≠ T2 := fun b ⟨ad, e, hb⟩ e2 => own_row hq hrow (by decide) ad e (by rw [hb, e2])
  have t12 : ∀ b, OnA A20 b → b ≠ lb2 := fun b ⟨ad, e, hb⟩ e2 => own_row hq hF (by decide) ad e (by rw [hb, e2])
  have t03 : ∀ k b, k ≤ D → OnA (lA' k) b → b ≠ T2 := fun k b hk ⟨ad, e, hb⟩ e2 => own_row (o k hk) hrow (by decide) ad e (by rw [hb, e2])
  have t13 : ∀ k b, k ≤ D → OnA (lA' k) b → b ≠ lb2 := fun k b hk ⟨ad, e, hb⟩ e2 => own_row (o k hk) hF (by decide) ad e (by rw [hb, e2])
  have t23 : ∀ k b, k ≤ D → OnA (lA' k) b → ¬ OnA A20 b := fun k b hk ⟨ad, e, hb⟩ ⟨ad2, e2, hb2⟩ => own_neO (o k hk) hq (by decide) ad e (by rw [e2]; show some ad.block = some ad2.block; rw [hb, hb2])
  exact {
    baseT := Nat.le_trans hbase hT
    row := hrow.congr (fun i _ => rfl)
    zr := hz
    zb := hzb
    baseL := Nat.le_trans hbase (Nat.le_trans h5 hlb)
    lrow := ⟨F, by rw [Nat.mul_one] at hF; exact hF, fun k hk => hF2 k (by rw [Nat.mul_one]; exact Nat.lt_succ_of_le hk)⟩
    lcap := hl.cap
    lv := fun k hk => (o k hk).mono (Nat.le_trans hbase h5)
    dr := hq.mono hbase
    apart := by
      intro r r' b h1 h2
      match r, r', h1, h2 with
      | 0, 0, _, _ => rfl
      | 1, 1, _, _ => rfl
      | 2, 2, _, _ => rfl
      | 0, 1, h1, h2 => exact absurd ((show b = T2 from h1).symm.trans (show b = lb2 from h2)) t01
      | 1, 0, h1, h2 => exact absurd ((show b = T2 from h2).symm.trans (show b = lb2 from h1)) t01
      | 0, 2, h1, h2 => exact absurd (show b = T2 from h1) (t02 b h2)
      | 2, 0, h1, h2 => exact absurd (show b = T2 from h2) (t02 b h1)
      | 1, 2, h1, h2 => exact absurd (show b = lb2 from h1) (t12 b h2)
      | 2, 1, h1, h2 => exact absurd (show b = lb2 from h2) (t12 b h1)
      | 0, k + 3, h1, h2 => exact absurd (show b = T2 from h1) (t03 k b h2.1 h2.2)
      | k + 3, 0, h1, h2 => exact absurd (show b = T2 from h2) (t03 k b h1.1 h1.2)
      | 1, k + 3, h1, h2 => exact absurd (show b = lb2 from h1) (t13 k b h2.1 h2.2)
      | k + 3, 1, h1, h2 => exact absurd (show b = lb2 from h2) (t13 k b h1.1 h1.2)
      | 2, k + 3, h1, h2 => exact absurd h1 (t23 k b h2.1 h2.2)
      | k + 3, 2, h1, h2 => exact absurd h2 (t23 k b h1.1 h1.2)
      | k + 3, k' + 3, h1, h2 => rw [hc.apart k k' b (Nat.lt_succ_of_le h1.1) (Nat.lt_succ_of_le h2.1) h1.2 h2.2]
    zapart := fun b hb ho => by have := hzl b hb; have := hnew b ho; omega }
end
end TreeCopy
open TreeFn TreeMark TreeNew TreeCopy in
set_option maxHeartbeats 16000000 in
theorem tcopy_look (v : TV) (base T n : Nat) (x : Nat → Nat) (w : World) (h : TM w base T v) (hst : TSt v n x) :
    Calls Tryd.prog 18 #[tpV T] w fun r w' => ∃ (T2 : Nat) (v2 : TV), r = .returned (tpV T2) ∧ TM w' base T2 v2 ∧ TSt v2 n x ∧ v2.lim = v.lim ∧ v2.D = v.D ∧ v2.zA = v.zA ∧ v2.H = 0 ∧ (∀ a, dirB v2.dn v2.dw a = dirB v.dn v.dw a) ∧ (∀ b, v2.own T2 b → w.heap.size ≤ b) ∧ Below w.heap.size w w' := by
  have H0 := Lib.hid h
  have HT0 := Lib.hid hst
  have hn30 : n ≤ 1073741824 := Nat.le_trans hst.nle hst.lim
  have hbase := h.base_le
  obtain ⟨lim, hlim⟩ : ∃ lim, v.lim = lim := ⟨_, rfl⟩
  obtain ⟨D, hD⟩ : ∃ D, v.D = D := ⟨_, rfl⟩
  obtain ⟨zA, hzA⟩ : ∃ zA, v.zA = zA := ⟨_, rfl⟩
  obtain ⟨zc, hzc⟩ : ∃ zc, v.zc = zc := ⟨_, rfl⟩
  obtain ⟨dA, hdA⟩ : ∃ dA, v.dA = dA := ⟨_, rfl⟩
  obtain ⟨dn, hdn0⟩ : ∃ dn, v.dn = dn := ⟨_, rfl⟩
  obtain ⟨dc, hdc⟩ : ∃ dc, v.dc = dc := ⟨_, rfl⟩
  obtain ⟨dw, hdw⟩ : ∃ dw, v.dw = dw := ⟨_, rfl⟩
  obtain ⟨lA, hlA⟩ : ∃ lA, v.lA = lA := ⟨_, rfl⟩
  obtain ⟨lm, hlm⟩ : ∃ lm, v.lm = lm := ⟨_, rfl⟩
  obtain ⟨lk, hlk⟩ : ∃ lk, v.lk = lk := ⟨_, rfl⟩
  obtain ⟨g, hg⟩ : ∃ g, v.g = g := ⟨_, rfl⟩
  have HLim := Lib.hid hlim
  have HD := Lib.hid hD
  have HZA := Lib.hid (And.intro hzA hzc)
  have HDA := Lib.hid (And.intro hdA (And.intro hdn0 (And.intro hdc hdw)))
  have HLV := Lib.hid (And.intro hlA (And.intro hlm (And.intro hlk hg)))
  have hD30 : D ≤ 30 := by rw [← hD]; exact hst.D30
  have hdn : dn ≤ 17592186044416 := by have := hst.dn; omega
  have HDR : Hid (∀ w', Below w.heap.size w w' → Rd w' w'.heap.size dA dn (u64v dw)) := Lib.hid (fun w' hb => by
    have h1 := (H0.out.below hb).dr.rd
    rw [hdA, hdn0, hdw, Nat.mul_one] at h1; exact h1)
  have HNil : Hid (dA = none → dc = 0) := Lib.hid (by rw [← hdA, ← hdc]; exact ShufLawOps.own_cap0 h.dr)
  have HLvl : Hid (∀ k, k ≤ D → OwnZ w base 30 32 (lA k) (lm k) (lk k) (u8v (g k)) ∧ w.cell? ⟨v.lb, k, none⟩ = some (.slice (lA k) (lm k) (lk k))) := Lib.hid (fun k hk => by
    have h1 := h.lv k (by omega)
    have h2 := h.level (k := k) (by omega)
    rw [hlA, hlm, hlk, hg] at h1
    rw [hlA, hlm, hlk] at h2
    exact ⟨h1, h2⟩)
  have HLm : Hid (∀ k, k ≤ D → lm k ≤ n) := Lib.hid (fun k hk => by
    rw [← hlm]
    rcases Nat.eq_zero_or_pos k with h0 | h0
    · subst h0; rw [hst.n0]; exact Nat.le_refl _
    · obtain ⟨j, rfl⟩ : ∃ j, k = j + 1 := ⟨k - 1, by omega⟩
      exact Nat.le_trans (hst.lev j (by omega)).1 (TreeCopy.cnt_leN n _))
  clear h hst hlim hD hzA hzc hdA hdn0 hdc hdw hlA hlm hlk hg
  go_enter Tryd.func18, Tryd.ntmps18
  go_upto_region 3 with fail
  refine wp_region_factsS (l := [_, _, _, _, _, _, _, _, _, _, _, _, _]) (tl := [_, _]) (B := w.heap.size) (w0 := w) [SF.is (.pointer (some ⟨T, 0, none⟩)), SF.is (.pointer (some ⟨T, 0, none⟩)), SF.is (.pointer (some ⟨T, 0, none⟩)), SF.is (.int .i64 ((lim : Nat) : Int)), SF.is (.pointer (some ⟨T, 0, none⟩)), SF.is (.pointer (some ⟨T, 0, none⟩)), SF.is (.pointer (some ⟨T, 1, none⟩)), SF.is (.slice (zA) (D + 1) (zc)), SF.is (.pointer (some ⟨T, 0, none⟩)), SF.is (.pointer (some ⟨T, 0, none⟩)), SF.is (.pointer (some ⟨T, 3, none⟩)), SF.is (.slice (dA) (dn) (dc)), SF.ownZ w.heap.size 65 1 dn (u64v dw)] (by kernel_rfl) (by kernel_rfl) rfl (Nat.le_refl _) (Below.refl _ _) ⟨?_, ?_, ?_, ?_, ?_, ?_, ?_, ?_, ?_, ?_, ?_, ?_, ?_, trivial⟩ ?_
  · exact (opOb_move _ rfl (.inl rfl) rfl)
  · exact opOb_nil _ rfl rfl (OpK.tmp rfl)
  · exact opOb_fld rfl rfl (OpK.tmp rfl) (fun w => by simp [go_sem])
  · exact opOb_ld rfl rfl (OpK.tmp rfl) (fun w' hb => run_ld1 w' _ _ .i64 _ (by rw [← HLim.out]; exact (H0.out.below hb).c0) Tryd.underlying3)
  · exact (opOb_move _ rfl (.inl rfl) rfl)
  · exact opOb_nil _ rfl rfl (OpK.tmp rfl)
  · exact opOb_fld rfl rfl (OpK.tmp rfl) (fun w => by simp [go_sem])
  · exact opOb_ld rfl rfl (OpK.tmp rfl) (fun w' hb => PickDraw.run_ldSl w' _ _ _ _ (by rw [← HD.out, ← HZA.out.1, ← HZA.out.2]; exact (H0.out.below hb).c1) Tryd.underlying22)
  · exact (opOb_move _ rfl (.inl rfl) rfl)
  · exact opOb_nil _ rfl rfl (OpK.tmp rfl)
  · exact opOb_fld rfl rfl (OpK.tmp rfl) (fun w => by simp [go_sem])
  · exact opOb_ld rfl rfl (OpK.tmp rfl) (fun w' hb => PickDraw.run_ldSl w' _ _ _ _ (by rw [← HDA.out.1, ← HDA.out.2.1, ← HDA.out.2.2.1]; exact (H0.out.below hb).c3) Tryd.underlying56)
  · exact opOb_fn1 ent_c64 rfl rfl (OpK.tmp rfl) (fun w' hb => (clone_any dn dc dA dw w' (HDR.out w' hb) hdn HNil.out).mono fun r w'' ⟨A', c', he, ho, hb2⟩ => ⟨_, he, ⟨A', c', rfl, ho.mono hb.size⟩, hb2⟩)
  · intro w' hb
    simp only [fin, SF.is, SF.ownZ, forall_eq]
    simp only [Act.put, List.setIfInBounds_toArray, List.set_cons_succ, List.set_cons_zero]
    rintro _ ⟨A20, c20, rfl, ho20⟩
    have HBa := Lib.hid hb
    have HQa := Lib.hid ho20
    obtain ⟨wa, hwa⟩ : ∃ wa : World, wa = w' := ⟨_, rfl⟩
    subst hwa
    clear hb ho20
    refine wp_as (.agg (arr 5 (cpF lim D zA zc A20 dn c20 none 0 0))) (ex_build 58 #[(0, .tmp 11), (1, .tmp 15), (3, .tmp 20)] rfl [(0, .int .i64 (lim : Int)), (1, .slice zA (D + 1) zc), (3, .slice A20 dn c20)] rfl _ (by rw [← cp_arr]; exact built_cp _ _ _ _ _ _ _)) ?_
    refine wp_boxL 58 (.tmp 21) rfl 5 (cpF lim D zA zc A20 dn c20 none 0 0) rfl ?_
    intro T2 w5 hT2 hr5 hb5
    have HS5 := Lib.hid (((HS.nil w).below HBa.out |>.below hb5).add hr5 (Nat.le_trans HBa.out.size hT2) (by simp))
    have HQ5 := Lib.hid (HQa.out.all hb5)
    have hz5 := HS5.out.size
    have hT2l := hr5.lt
    have hT2w : w.heap.size ≤ T2 := Nat.le_trans HBa.out.size hT2
    clear hr5 hb5 HBa HQa
    simp only [Act.put, List.setIfInBounds_toArray, List.set_cons_succ, List.set_cons_zero]
    refine wp_as (tpV T2) (ex_move (v := tpV T2) (.inr rfl) rfl _) ?_
    simp only [seqWp, Act.put]
    go_wp2_with ((refine wpList_as rfl 26 rfl (.slice (some ⟨v.lb, 0, none⟩) (D + 1) v.lc) ?_ ?_; (· exact ex_ldSl rfl rfl Tryd.underlying55 ((H0.out.below (HS5.out.out (by simp; omega))).c2) (by rw [HD.out]))))
    go_loopw [28] (fun i wr => ∃ (d : Nat) (Lb : Option Addr) (Lc : Nat) (lA' : Nat → Option Addr) (lk' : Nat → Nat), i = .int .i64 (d : Int) ∧ d ≤ D + 1 ∧ HS w wr [⟨T2, 58, 5, cpF lim D zA zc A20 dn c20 Lb d Lc⟩] ∧ OwnZ wr w.heap.size 65 1 A20 dn c20 (u64v dw) ∧ OwnZ wr w5.heap.size 22 1 Lb d Lc (levF lm lA' lk') ∧ Clones wr w5.heap.size d lm g lA' lk') (fun i _ => D + 1 - (intOf i).toNat)
    case atStart => exact ⟨0, none, 0, fun _ => none, fun _ => 0, rfl, by omega, HS5.out, HQ5.out, OwnZ.nil _ _ _ _ _, ⟨fun k hk => by omega, fun k k' b hk => by omega, Nat.le_refl _⟩⟩
    case round =>
      obtain ⟨d, Lb, Lc, lA', lk', rfl, hd, hs, hq, hl, hc⟩ := hrel
      have HSq := Lib.hid hs
      have HQq := Lib.hid hq
      have HLq := Lib.hid hl
      have HCq := Lib.hid hc
      have hb0 := hs.out (by simp; omega)
      have HBq := Lib.hid hb0
      clear hs hq hl hc hb0 HS5 HQ5
      obtain ⟨wq, rfl⟩ : ∃ wq : World, wq = wr := ⟨_, rfl⟩
      by_cases hdn2 : d < D + 1
      · have hdl := HLvl.out d (by omega)
        have hmn := HLm.out d (by omega)
        have HNl : Hid (lA d = none → lk d = 0) := Lib.hid (ShufLawOps.own_cap0 hdl.1)
        have HCd := Lib.hid (show wq.cell? ⟨v.lb, d, none⟩ = some (.slice (lA d) (lm d) (lk d)) by
          have h1 := (H0.out.below HBq.out).level (k := d) (by rw [HD.out]; omega)
          rw [HLV.out.1, HLV.out.2.1, HLV.out.2.2.1] at h1
          exact h1)
        have HLR : Hid (∀ (wz : World), HS w wz [⟨T2, 58, 5, cpF lim D zA zc A20 dn c20 Lb d Lc⟩] → Rd wz wz.heap.size (lA d) (lm d * 32) (u8v (g d))) := Lib.hid (fun wz hz => ((HLvl.out d (by omega)).1.all (hz.out (by simp; omega))).rd)
        clear hdl
        go_upto_region 7 with (first
          | (refine wpList_as rfl 30 rfl (.pointer (some ⟨v.lb, d, none⟩)) ?_ ?_; (· exact ex_idx rfl rfl rfl (fun w => ixL w _ _ _ d hdn2) _))
          | (refine wpList_as rfl 31 rfl (.slice (lA d) (lm d) (lk d)) ?_ ?_; (· exact ex_ldSl rfl rfl Tryd.underlying22 HCd.out rfl)))
        refine ord_enter (n := 12) (by kernel_rfl) (by kernel_rfl) ?_
        have HSv0 := Lib.hid HSq.out.drew
        have HQv0 : Hid (OwnZ wq.drew w.heap.size 65 1 A20 dn c20 (u64v dw)) := Lib.hid HQq.out
        have HLv0 : Hid (OwnZ wq.drew w5.heap.size 22 1 Lb d Lc (levF lm lA' lk')) := Lib.hid HLq.out
        have HCv0 : Hid (Clones wq.drew w5.heap.size d lm g lA' lk') := Lib.hid ⟨HCq.out.own, HCq.out.apart, HCq.out.base_le⟩
        generalize wq.drew = wv at HSv0 HQv0 HLv0 HCv0 ⊢
        have HSv := Lib.hid HSv0.out
        have HQv := Lib.hid HQv0.out
        have HLv := Lib.hid HLv0.out
        have HCv := Lib.hid HCv0.out
        have hbnd : ∀ k b, k < d → OnA (lA' k) b → b < wv.heap.size := fun k b hk hb => ((HCv0.out.own k hk).on hb).2
        have HBn := Lib.hid hbnd
        clear hbnd HSv0 HQv0 HLv0 HCv0 HSq HQq HLq HCq HBq HCd
        refine ord_take (i := 0) (tpV T2) rfl (by kernel_rfl) (by kernel_rfl) (by kernel_rfl) rfl (fun _ _ _ h => h) (ex_move (.inl rfl) rfl) ?_
        refine ord_take (i := 1) (tpV T2) rfl (by kernel_rfl) (by kernel_rfl) (by kernel_rfl) rfl (fun _ _ _ h => h) (ex_move (.inl rfl) rfl) ?_
        refine ord_take (i := 5) (.slice (lA d) (lm d) (lk d)) rfl (by kernel_rfl) (by kernel_rfl) (by kernel_rfl) rfl (fun _ _ _ h => h) (ex_move (.inl rfl) rfl) ?_
        simp only [Act.put, List.setIfInBounds_toArray, List.set_cons_succ, List.set_cons_zero]
        refine ord_take (i := 2) (tpV T2) rfl (by kernel_rfl) (by kernel_rfl) (by kernel_rfl) rfl (fun _ _ _ h => h) (ex_nil rfl rfl) ?_
        simp only [Act.put, List.setIfInBounds_toArray, List.set_cons_succ, List.set_cons_zero]
        refine ord_take (i := 3) (.pointer (some ⟨T2, 2, none⟩)) rfl (by kernel_rfl) (by kernel_rfl) (by kernel_rfl) rfl (fun _ _ _ h => h) (ex_fld rfl rfl (fun w => by simp [go_sem])) ?_
        simp only [Act.put, List.setIfInBounds_toArray, List.set_cons_succ, List.set_cons_zero]
        refine ord_two (i := 4) (j := 6) rfl rfl (by kernel_rfl) rfl rfl (fun K hK => ?_) (fun K hK => ?_)
        · refine wp_as (.slice Lb d Lc) (ex_ldSl rfl rfl Tryd.underlying55 (HSv.out.cell 0 2 rfl (show 2 < 5 by omega)) rfl) ?_
          refine hK _ _ ?_
          clear hK
          simp only [Act.put, List.setIfInBounds_toArray, List.set_cons_succ, List.set_cons_zero]
          refine ord_step (i := 6) rfl (by kernel_rfl) rfl (fun K hK => ?_)
          refine wp_fn ent_cR #[.slice (lA d) (lm d) (lk d)] rfl rfl ?_
          refine (cloneR_any (lm d) (lk d) (lA d) (g d) _ (HLR.out _ HSv.out) (by omega) HNl.out).mono ?_
          rintro e wc ⟨Ac, cc, rfl, hoc, hb⟩
          have HBc := Lib.hid hb
          have HNc := Lib.hid (hoc.mono (HCv.out.base_le))
          have HFr := Lib.hid (show ∀ b, OnA Ac b → wv.heap.size ≤ b from fun b hb => (hoc.on hb).1)
          clear hb hoc
          have HSc := Lib.hid (HSv.out.below HBc.out)
          have HQc := Lib.hid (HQv.out.all HBc.out)
          have HLc := Lib.hid (HLv.out.all HBc.out)
          have HCc := Lib.hid (HCv.out.all HBc.out)
          refine ⟨_, rfl, ?_⟩
          refine hK _ _ ?_
          clear hK
          simp only [Act.put, List.setIfInBounds_toArray, List.set_cons_succ, List.set_cons_zero]
          refine ord_step (i := 7) rfl (by kernel_rfl) rfl (fun K hK => ?_)
          refine wp_bs1v (.tmp 38) (.slice Ac (lm d) cc) rfl rfl (fun w => run_bs1_S _ _ _ w) ?_
          intro b7 w7 hb7 hr hb
          have HR7 := Lib.hid hr
          have HB7 := Lib.hid hb
          have HN7 := Lib.hid (HNc.out.all hb)
          clear hr hb
          have HS7 := Lib.hid (HSc.out.below HB7.out)
          have HQ7 := Lib.hid (HQc.out.all HB7.out)
          have HL7 := Lib.hid (HLc.out.all HB7.out)
          have HC7 := Lib.hid (HCc.out.all HB7.out)
          refine hK _ _ ?_
          clear hK
          simp only [Act.put, List.setIfInBounds_toArray, List.set_cons_succ, List.set_cons_zero]
          refine ord_step (i := 8) rfl (by kernel_rfl) rfl (fun K hK => ?_)
          refine wp_appZ _ (.tmp 36) (.tmp 39) 55 w5.heap.size (e := 22) (z := .slice none 0 0) (k := 1) (bytes := 24) (by kernel_rfl) Tryd.underlying55 (by rfl) (by omega) rfl (d + 1) (levF lm (upd lA' d Ac) (upd lk' d cc)) rfl rfl HL7.out (Rd.of_row (n := 1 * 1) HR7.out (Nat.le_refl _) HR7.out.lt) (fun _ _ => rfl) rfl (cat_lev d lm lA' lk' Ac cc) ⟨by omega, by omega⟩ HC7.out.base_le ?_
          intro A8 c8 w8 ho hg ha
          have HL8 := Lib.hid ho
          have HS8 := Lib.hid (HS7.out.appO hg (B := w5.heap.size) (fun ad e => (HL7.out.base_le ad e).1) (by simp; omega))
          have HQ8 := Lib.hid (HQ7.out.kept hg (own_neO HQ7.out HL7.out (by decide)))
          have HC8 := Lib.hid (HC7.out.kept hg HL7.out)
          have HN8 := Lib.hid (HN7.out.kept hg (own_neO HN7.out HL7.out (by decide)))
          clear ho hg ha
          refine hK _ _ ?_
          clear hK
          simp only [Act.put, List.setIfInBounds_toArray, List.set_cons_succ, List.set_cons_zero]
          refine ord_take (i := 9) (tpV T2) rfl (by kernel_rfl) (by kernel_rfl) (by kernel_rfl) rfl (fun _ _ _ h => h) (ex_nil rfl rfl) ?_
          simp only [Act.put, List.setIfInBounds_toArray, List.set_cons_succ, List.set_cons_zero]
          refine ord_take (i := 10) (.pointer (some ⟨T2, 2, none⟩)) rfl (by kernel_rfl) (by kernel_rfl) (by kernel_rfl) rfl (fun _ _ _ h => h) (ex_fld rfl rfl (fun w => by simp [go_sem])) ?_
          simp only [Act.put, List.setIfInBounds_toArray, List.set_cons_succ, List.set_cons_zero]
          refine ord_step (i := 11) rfl (by kernel_rfl) rfl (fun K hK => ?_)
          have hrw : w8.rowIs T2 58 5 (cpF lim D zA zc A20 dn c20 Lb d Lc) := HS8.out.row 0 rfl
          refine wp_st1G 55 (.tmp 42) (.tmp 40) rfl HS8.out 0 rfl 2 (.slice A8 (d + 1) c8) (stSlL _ _ _) rfl rfl (show 2 < 5 by omega) (cpF lim D zA zc A20 dn c20 A8 (d + 1) c8) (cp_step _ _ _ _ _ _ _ _ _ _ _ _ _) ?_
          intro w9 hs hg
          have HS9 := Lib.hid hs
          have HL9 := Lib.hid (HL8.out.kept hg (own_row HL8.out hrw (by decide)))
          have HQ9 := Lib.hid (HQ8.out.kept hg (own_row HQ8.out hrw (by decide)))
          have HN9 := Lib.hid (HN8.out.kept hg (own_row HN8.out hrw (by decide)))
          have HC9 := Lib.hid (HC8.out.keptR hg hrw)
          clear hs hg hrw
          refine hK _ _ ?_
          clear hK
          simp only [Act.put]
          refine wpAny_done (by kernel_rfl) ?_ _
          have HCn := Lib.hid (HC9.out.more HN9.out HFr.out HBn.out)
          clear HS8 HL8 HQ8 HN8 HC8 HS7 HL7 HQ7 HN7 HC7
          go_wp2_with fail
          go_roundw
          case rel => exact ⟨d + 1, A8, c8, upd lA' d Ac, upd lk' d cc, by go_num, by omega, HS9.out, HQ9.out, HL9.out, HCn.out⟩
          case measure => simp [intOf]; omega
        · refine wp_fn ent_cR #[.slice (lA d) (lm d) (lk d)] rfl rfl ?_
          refine (cloneR_any (lm d) (lk d) (lA d) (g d) _ (HLR.out _ HSv.out) (by omega) HNl.out).mono ?_
          rintro e wc ⟨Ac, cc, rfl, hoc, hb⟩
          have HBc := Lib.hid hb
          have HNc := Lib.hid (hoc.mono (HCv.out.base_le))
          have HFr := Lib.hid (show ∀ b, OnA Ac b → wv.heap.size ≤ b from fun b hb => (hoc.on hb).1)
          clear hb hoc
          have HSc := Lib.hid (HSv.out.below HBc.out)
          have HQc := Lib.hid (HQv.out.all HBc.out)
          have HLc := Lib.hid (HLv.out.all HBc.out)
          have HCc := Lib.hid (HCv.out.all HBc.out)
          refine ⟨_, rfl, ?_⟩
          refine hK _ _ ?_
          clear hK
          simp only [Act.put, List.setIfInBounds_toArray, List.set_cons_succ, List.set_cons_zero]
          refine ord_two (i := 4) (j := 7) rfl rfl (by kernel_rfl) rfl rfl (fun K hK => ?_) (fun K hK => ?_)
          · refine wp_as (.slice Lb d Lc) (ex_ldSl rfl rfl Tryd.underlying55 (HSc.out.cell 0 2 rfl (show 2 < 5 by omega)) rfl) ?_
            refine hK _ _ ?_
            clear hK
            simp only [Act.put, List.setIfInBounds_toArray, List.set_cons_succ, List.set_cons_zero]
            refine ord_step (i := 7) rfl (by kernel_rfl) rfl (fun K hK => ?_)
            refine wp_bs1v (.tmp 38) (.slice Ac (lm d) cc) rfl rfl (fun w => run_bs1_S _ _ _ w) ?_
            intro b7 w7 hb7 hr hb
            have HR7 := Lib.hid hr
            have HB7 := Lib.hid hb
            have HN7 := Lib.hid (HNc.out.all hb)
            clear hr hb
            have HS7 := Lib.hid (HSc.out.below HB7.out)
            have HQ7 := Lib.hid (HQc.out.all HB7.out)
            have HL7 := Lib.hid (HLc.out.all HB7.out)
            have HC7 := Lib.hid (HCc.out.all HB7.out)
            refine hK _ _ ?_
            clear hK
            simp only [Act.put, List.setIfInBounds_toArray, List.set_cons_succ, List.set_cons_zero]
            refine ord_step (i := 8) rfl (by kernel_rfl) rfl (fun K hK => ?_)
            refine wp_appZ _ (.tmp 36) (.tmp 39) 55 w5.heap.size (e := 22) (z := .slice none 0 0) (k := 1) (bytes := 24) (by kernel_rfl) Tryd.underlying55 (by rfl) (by omega) rfl (d + 1) (levF lm (upd lA' d Ac) (upd lk' d cc)) rfl rfl HL7.out (Rd.of_row (n := 1 * 1) HR7.out (Nat.le_refl _) HR7.out.lt) (fun _ _ => rfl) rfl (cat_lev d lm lA' lk' Ac cc) ⟨by omega, by omega⟩ HC7.out.base_le ?_
            intro A8 c8 w8 ho hg ha
            have HL8 := Lib.hid ho
            have HS8 := Lib.hid (HS7.out.appO hg (B := w5.heap.size) (fun ad e => (HL7.out.base_le ad e).1) (by simp; omega))
            have HQ8 := Lib.hid (HQ7.out.kept hg (own_neO HQ7.out HL7.out (by decide)))
            have HC8 := Lib.hid (HC7.out.kept hg HL7.out)
            have HN8 := Lib.hid (HN7.out.kept hg (own_neO HN7.out HL7.out (by decide)))
            clear ho hg ha
            refine hK _ _ ?_
            clear hK
            simp only [Act.put, List.setIfInBounds_toArray, List.set_cons_succ, List.set_cons_zero]
            refine ord_take (i := 9) (tpV T2) rfl (by kernel_rfl) (by kernel_rfl) (by kernel_rfl) rfl (fun _ _ _ h => h) (ex_nil rfl rfl) ?_
            simp only [Act.put, List.setIfInBounds_toArray, List.set_cons_succ, List.set_cons_zero]
            refine ord_take (i := 10) (.pointer (some ⟨T2, 2, none⟩)) rfl (by kernel_rfl) (by kernel_rfl) (by kernel_rfl) rfl (fun _ _ _ h => h) (ex_fld rfl rfl (fun w => by simp [go_sem])) ?_
            simp only [Act.put, List.setIfInBounds_toArray, List.set_cons_succ, List.set_cons_zero]
            refine ord_step (i := 11) rfl (by kernel_rfl) rfl (fun K hK => ?_)
            have hrw : w8.rowIs T2 58 5 (cpF lim D zA zc A20 dn c20 Lb d Lc) := HS8.out.row 0 rfl
            refine wp_st1G 55 (.tmp 42) (.tmp 40) rfl HS8.out 0 rfl 2 (.slice A8 (d + 1) c8) (stSlL _ _ _) rfl rfl (show 2 < 5 by omega) (cpF lim D zA zc A20 dn c20 A8 (d + 1) c8) (cp_step _ _ _ _ _ _ _ _ _ _ _ _ _) ?_
            intro w9 hs hg
            have HS9 := Lib.hid hs
            have HL9 := Lib.hid (HL8.out.kept hg (own_row HL8.out hrw (by decide)))
            have HQ9 := Lib.hid (HQ8.out.kept hg (own_row HQ8.out hrw (by decide)))
            have HN9 := Lib.hid (HN8.out.kept hg (own_row HN8.out hrw (by decide)))
            have HC9 := Lib.hid (HC8.out.keptR hg hrw)
            clear hs hg hrw
            refine hK _ _ ?_
            clear hK
            simp only [Act.put]
            refine wpAny_done (by kernel_rfl) ?_ _
            have HCn := Lib.hid (HC9.out.more HN9.out HFr.out HBn.out)
            clear HS8 HL8 HQ8 HN8 HC8 HS7 HL7 HQ7 HN7 HC7
            go_wp2_with fail
            go_roundw
            case rel => exact ⟨d + 1, A8, c8, upd lA' d Ac, upd lk' d cc, by go_num, by omega, HS9.out, HQ9.out, HL9.out, HCn.out⟩
            case measure => simp [intOf]; omega
          · refine wp_bs1v (.tmp 38) (.slice Ac (lm d) cc) rfl rfl (fun w => run_bs1_S _ _ _ w) ?_
            intro b7 w7 hb7 hr hb
            have HR7 := Lib.hid hr
            have HB7 := Lib.hid hb
            have HN7 := Lib.hid (HNc.out.all hb)
            clear hr hb
            have HS7 := Lib.hid (HSc.out.below HB7.out)
            have HQ7 := Lib.hid (HQc.out.all HB7.out)
            have HL7 := Lib.hid (HLc.out.all HB7.out)
            have HC7 := Lib.hid (HCc.out.all HB7.out)
            refine hK _ _ ?_
            clear hK
            simp only [Act.put, List.setIfInBounds_toArray, List.set_cons_succ, List.set_cons_zero]
            refine ord_step (i := 4) rfl (by kernel_rfl) rfl (fun K hK => ?_)
            refine wp_as (.slice Lb d Lc) (ex_ldSl rfl rfl Tryd.underlying55 (HS7.out.cell 0 2 rfl (show 2 < 5 by omega)) rfl) ?_
            refine hK _ _ ?_
            clear hK
            simp only [Act.put, List.setIfInBounds_toArray, List.set_cons_succ, List.set_cons_zero]
            refine ord_step (i := 8) rfl (by kernel_rfl) rfl (fun K hK => ?_)
            refine wp_appZ _ (.tmp 36) (.tmp 39) 55 w5.heap.size (e := 22) (z := .slice none 0 0) (k := 1) (bytes := 24) (by kernel_rfl) Tryd.underlying55 (by rfl) (by omega) rfl (d + 1) (levF lm (upd lA' d Ac) (upd lk' d cc)) rfl rfl HL7.out (Rd.of_row (n := 1 * 1) HR7.out (Nat.le_refl _) HR7.out.lt) (fun _ _ => rfl) rfl (cat_lev d lm lA' lk' Ac cc) ⟨by omega, by omega⟩ HC7.out.base_le ?_
            intro A8 c8 w8 ho hg ha
            have HL8 := Lib.hid ho
            have HS8 := Lib.hid (HS7.out.appO hg (B := w5.heap.size) (fun ad e => (HL7.out.base_le ad e).1) (by simp; omega))
            have HQ8 := Lib.hid (HQ7.out.kept hg (own_neO HQ7.out HL7.out (by decide)))
            have HC8 := Lib.hid (HC7.out.kept hg HL7.out)
            have HN8 := Lib.hid (HN7.out.kept hg (own_neO HN7.out HL7.out (by decide)))
            clear ho hg ha
            refine hK _ _ ?_
            clear hK
            simp only [Act.put, List.setIfInBounds_toArray, List.set_cons_succ, List.set_cons_zero]
            refine ord_take (i := 9) (tpV T2) rfl (by kernel_rfl) (by kernel_rfl) (by kernel_rfl) rfl (fun _ _ _ h => h) (ex_nil rfl rfl) ?_
            simp only [Act.put, List.setIfInBounds_toArray, List.set_cons_succ, List.set_cons_zero]
            refine ord_take (i := 10) (.pointer (some ⟨T2, 2, none⟩)) rfl (by kernel_rfl) (by kernel_rfl) (by kernel_rfl) rfl (fun _ _ _ h => h) (ex_fld rfl rfl (fun w => by simp [go_sem])) ?_
            simp only [Act.put, List.setIfInBounds_toArray, List.set_cons_succ, List.set_cons_zero]
            refine ord_step (i := 11) rfl (by kernel_rfl) rfl (fun K hK => ?_)
            have hrw : w8.rowIs T2 58 5 (cpF lim D zA zc A20 dn c20 Lb d Lc) := HS8.out.row 0 rfl
            refine wp_st1G 55 (.tmp 42) (.tmp 40) rfl HS8.out 0 rfl 2 (.slice A8 (d + 1) c8) (stSlL _ _ _) rfl rfl (show 2 < 5 by omega) (cpF lim D zA zc A20 dn c20 A8 (d + 1) c8) (cp_step _ _ _ _ _ _ _ _ _ _ _ _ _) ?_
            intro w9 hs hg
            have HS9 := Lib.hid hs
            have HL9 := Lib.hid (HL8.out.kept hg (own_row HL8.out hrw (by decide)))
            have HQ9 := Lib.hid (HQ8.out.kept hg (own_row HQ8.out hrw (by decide)))
            have HN9 := Lib.hid (HN8.out.kept hg (own_row HN8.out hrw (by decide)))
            have HC9 := Lib.hid (HC8.out.keptR hg hrw)
            clear hs hg hrw
            refine hK _ _ ?_
            clear hK
            simp only [Act.put]
            refine wpAny_done (by kernel_rfl) ?_ _
            have HCn := Lib.hid (HC9.out.more HN9.out HFr.out HBn.out)
            clear HS8 HL8 HQ8 HN8 HC8 HS7 HL7 HQ7 HN7 HC7
            go_wp2_with fail
            go_roundw
            case rel => exact ⟨d + 1, A8, c8, upd lA' d Ac, upd lk' d cc, by go_num, by omega, HS9.out, HQ9.out, HL9.out, HCn.out⟩
            case measure => simp [intOf]; omega
      · obtain rfl : d = D + 1 := by omega
        obtain ⟨lb2, hlb2⟩ := own_some HLq.out (by omega)
        subst hlb2
        go_wp2_with fail
        go_ret
        have hz0 := H0.out.below HBq.out
        have e1 := HLim.out; have e2 := HD.out; have e3 := HZA.out; have e4 := HDA.out; have e5 := HLV.out
        refine ⟨T2, ⟨lim, D, zA, zc, lb2, Lc, A20, dn, c20, dw, 0, lA', lm, lk', g⟩, rfl, cp_tm hbase hT2w hz5 HSq.out HQq.out HLq.out HCq.out (by rw [← e2, ← e3.1]; exact hz0.zr) (fun b hb => H0.out.zb b (by rw [e3.1]; exact hb)) (fun b hb => H0.out.zlt (by rw [e3.1]; exact hb)), cp_st HT0.out e5.2.1.symm e5.2.2.2.symm e2.symm e1.symm e4.2.1.symm e4.2.2.2.symm, e1.symm, e2.symm, e3.1.symm, rfl, fun a => by rw [e4.2.1, e4.2.2.2], cp_new hT2w hz5 HQq.out HLq.out HCq.out, HBq.out⟩
end Go.Proofs.YtlcpflaofggmeaaDoor
/- The root of a tree without leaves. -/
namespace Go.Proofs.YtlcpflaofggmeaaDoor
set_option maxRecDepth 40000
open Go.RowKit
open TreeFn TreeMark TreeNew TreeGet TreeCopy in
set_option maxHeartbeats 8000000 in
theorem troot_zero (v : TV) (base T : Nat) (w : World) (h : TM w base T v) (hn : v.lm 0 = 0) (hD : v.D ≤ 30) :
    Calls Tryd.prog 12 #[tpV T] w fun r w' => r = .returned (rootV (zrN v.D)) ∧ Below w.heap.size w w' := by
  have H0 := Lib.hid h
  have HN := Lib.hid hn
  have HS0 := Lib.hid (HS.nil w)
  obtain ⟨D, hDd⟩ : ∃ D, v.D = D := ⟨_, rfl⟩
  rw [hDd] at hD
  have HD := Lib.hid hDd
  obtain ⟨adz, hzA, _, _⟩ := h.zr (by omega)
  have HZA := Lib.hid hzA
  have HZ : Hid (∀ w', Below w.heap.size w w' → ∀ q, q < 32 → w'.cell? ((adz.add (D * 32)).add q) = some (u8v (zrN D) q)) := Lib.hid (fun w' hb q hq => by
    have h1 := (H0.out.below hb).zr
    rw [HZA.out, HD.out] at h1
    have h2 := h1.cells (i := D * 32 + q) (by omega)
    rw [add_add, h2]
    simp only [u8v, zrsN]
    rw [show (D * 32 + q) / 32 = D by omega, show (D * 32 + q) % 32 = q by omega])
  rw [hDd]
  clear h hn hDd hzA
  go_enter Tryd.func12, Tryd.ntmps12
  go_wp2_with (first
    | (refine wpList_allocL rfl 30 2 rfl rfl HS0.out (Array.replicate 32 (.int .u8 0)) (by kernel_rfl) 32 (u8v fun _ => 0) (by rfl) (zero_at 32 (.int .u8 0)) ?_; intro b2 w2 hb2 hc2 hs; have HS2 := Lib.hid hs; have HB2 := Lib.hid (hs.out (by simp; omega)); clear hs)
    | (refine wpList_as rfl 20 rfl (.slice (some ⟨v.lb, 0, none⟩) (D + 1) v.lc) ?_ ?_; (· exact ex_ldSl rfl rfl Tryd.underlying55 (H0.out.below HB2.out).c2 (by rw [HD.out])))
    | (refine wpList_as rfl 22 rfl (.int .i64 (D : Int)) ?_ ?_; (· exact ex_bin rfl rfl rfl rfl (fun w => subI (D + 1) D rfl (by omega) w) _))
    | (go_at_call 14; refine (tlen_look v base T _ (H0.out.below HB2.out)).mono ?_; rintro r w5 ⟨rfl, hw5⟩; rw [hw5, HN.out]; clear hw5 w5)
    | (refine wpList_as rfl 29 rfl (.slice (some adz) (D + 1) v.zc) ?_ ?_; (· exact ex_ldSl rfl rfl Tryd.underlying22 (H0.out.below HB2.out).c1 (by rw [HD.out, HZA.out])))
    | (refine wpList_as rfl 31 rfl (.pointer (some (adz.add (D * 32)))) ?_ ?_; (· exact ex_idx rfl rfl rfl (fun w => run_idxZ (z := 32) w Tryd.underlying22 (by kernel_rfl) adz (by omega)) _))
    | (refine wpList_load_rd rfl 30 (.tmp 31) rfl 32 _ Tryd.underlying30 rfl (by kernel_rfl) (adz.add (D * 32)) rfl (u8v (zrN D)) (HZ.out _ HB2.out) ?_)
    | (refine wpList_storeH rfl 30 (.tmp 2) (.tmp 32) rfl HS2.out 0 rfl (u8v (zrN D)) rfl rfl (by kernel_rfl) (fun _ _ => rfl) ?_; intro wh hs; have HH := Lib.hid hs; clear hs))
  exact ret_rowIs rfl (HH.out.row 0 rfl) _ rfl Tryd.underlying30 rfl (by kernel_rfl) rfl ⟨rfl, HH.out.out (by simp; omega)⟩
end Go.Proofs.YtlcpflaofggmeaaDoor
/- Root, level by level: what holds behind each level, and behind each changed node. -/
namespace Go.Proofs.YtlcpflaofggmeaaDoor
set_option maxRecDepth 40000
open Go.RowKit
theorem ShaPkg.base {w w' : World} {B : Nat} (h : ShaPkg w) (hB : 0 < B ∧ 2 < B) (hb : Below B w w') : ShaPkg w' := h.keep fun b _ he => hb.block b (by rcases he with rfl | rfl; exact hB.1; exact hB.2)
theorem levAll_leaves {n : Nat} {x g : Nat → Nat} (h : ∀ i, i < n * 32 → g i = x i) : LevAll 0 n n x g :=
  ⟨rfl, fun j hj q hq => by
    have hj' : j < n := hj
    rw [h _ (by omega)]; exact (nod_leaf n x j q hj' hq).symm⟩
/-- The levels up to d are right. -/
structure RS (w2 wr : World) (base T : Nat) (v v1 : TV) (n : Nat) (x : Nat → Nat) (d : Nat) : Prop where
  tm : TM wr base T v1
  st : TStep w2 wr T v v1
  lo : ∀ k, k ≤ d → LevAll k n (v1.lm k) x (v1.g k)
  hi : ∀ k, d < k → k ≤ v.D → v1.lm k = v.lm k ∧ v1.g k = v.g k
  H : v1.H = v.H + costN n (dirB v.dn v.dw) d
  dn : v1.dn = v.dn
  dw : v1.dw = v.dw
  g8 : ∀ k i, v1.g k i < 256
theorem RS.start {w2 : World} {base T n : Nat} {v : TV} {x : Nat → Nat} (h : TM w2 base T v) (hs : TSt v n x) : RS w2 w2 base T v v n x 0 where
  tm := h
  st := TStep.refl (Below.refl _ _)
  lo := fun k hk => by
    obtain rfl : k = 0 := by omega
    rw [hs.n0]; exact levAll_leaves hs.x0
  hi := fun _ _ _ => ⟨rfl, rfl⟩
  H := rfl
  dn := rfl
  dw := rfl
  g8 := hs.g8
/-- Level d + 1, behind the first q changed nodes of level d. -/
structure IS (w2 wq : World) (base T : Nat) (v v1 v2 : TV) (n : Nat) (x : Nat → Nat) (d q : Nat) : Prop where
  tm : TM wq base T v2
  st : TStep w2 wq T v v2
  same : ∀ k, k ≠ d + 1 → v2.lm k = v1.lm k ∧ v2.g k = v1.g k
  part : LevPart d n (v2.lm (d + 1)) x (v2.g (d + 1)) (dirB v.dn v.dw) q
  H : v2.H = v1.H + (hfN (atN n (dirB v.dn v.dw) d) q).length
  dn : v2.dn = v.dn
  dw : v2.dw = v.dw
  g8 : ∀ k i, v2.g k i < 256
section
variable {w2 wq w' : World} {base T n d q : Nat} {v v1 v2 : TV} {x : Nat → Nat}
theorem IS.start (h : RS w2 wq base T v v1 n x d) (hs : TSt v n x) (hd : d < v.D) : IS w2 wq base T v v1 v1 n x d 0 where
  tm := h.tm
  st := h.st
  same := fun _ _ => ⟨rfl, rfl⟩
  part := by
    obtain ⟨e1, e2⟩ := h.hi (d + 1) (by omega) (by omega)
    rw [e1, e2]
    exact part_start (hs.lev d hd)
  H := rfl
  dn := h.dn
  dw := h.dw
  g8 := h.g8
theorem IS.below (h : IS w2 wq base T v v1 v2 n x d q) (hb : Below wq.heap.size wq w') : IS w2 w' base T v v1 v2 n x d q :=
  { h with tm := h.tm.below hb, st := h.st.trans (TStep.refl hb) }
/-- A list that is none of the tree's blocks grew. -/
theorem IS.grown {A : Option Addr} (h : IS w2 wq base T v v1 v2 n x d q) (hg : wq.grownBy w' (A.map (·.block))) (hA : ∀ b, OnA A b → w2.heap.size ≤ b ∧ ¬ v2.own T b ∧ ¬ OnA v2.zA b) : IS w2 w' base T v v1 v2 n x d q :=
  { h with
    tm := h.tm.keep hg.size fun b hb => hg.block b (by
      rcases hb with h1 | h1
      · exact h.tm.lt h1
      · exact h.tm.zlt h1) (fun e => by
      obtain ⟨_, h2, h3⟩ := hA b (own_onA e)
      rcases hb with h1 | h1
      · exact h2 h1
      · exact h3 h1)
    st := ⟨h.st.chg.trans (Chg.of_grown (S := fun b => A.map (·.block) = some b) hg (fun b e => .inl e)) (fun b e => .inr (hA b (own_onA e.symm)).1), h.st.new, h.st.zA, h.st.D, h.st.lim⟩ }
/-- A node that was reckoned just now. -/
theorem IS.skip (h : IS w2 wq base T v v1 v2 n x d q) (hl : (hfN (atN n (dirB v.dn v.dw) d) q).getLast? = some (atN n (dirB v.dn v.dw) d q / 2)) : IS w2 wq base T v v1 v2 n x d (q + 1) :=
  { h with part := part_skip h.part hl, H := by rw [hf_skip hl]; exact h.H }
/-- A node that is reckoned and laid: the tree behind it is v3. -/
theorem IS.put {v3 : TV} {m' : Nat} {g' : Nat → Nat} (h : IS w2 wq base T v v1 v2 n x d q) (hq : q < (atL n (dirB v.dn v.dw) d).length) (hl : (hfN (atN n (dirB v.dn v.dw) d) q).getLast? ≠ some (atN n (dirB v.dn v.dw) d q / 2)) (htm : TM w' base T v3) (hst : TStep wq w' T v2 v3)
    (hlm : ∀ k, v3.lm k = if k = d + 1 then m' else v2.lm k) (hg : ∀ k, v3.g k = if k = d + 1 then g' else v2.g k) (hH : v3.H = v2.H + 1) (hdn : v3.dn = v2.dn) (hdw : v3.dw = v2.dw)
    (hm : m' = if atN n (dirB v.dn v.dw) d q / 2 < v2.lm (d + 1) then v2.lm (d + 1) else v2.lm (d + 1) + 1) (hn : ∀ r, r < 32 → g' (atN n (dirB v.dn v.dw) d q / 2 * 32 + r) = nodN (d + 1) n x (atN n (dirB v.dn v.dw) d q / 2) r)
    (ho : ∀ j, j < v2.lm (d + 1) → j ≠ atN n (dirB v.dn v.dw) d q / 2 → ∀ r, r < 32 → g' (j * 32 + r) = v2.g (d + 1) (j * 32 + r)) (h8 : ∀ i, g' i < 256) : IS w2 w' base T v v1 v3 n x d (q + 1) where
  tm := htm
  st := h.st.trans hst
  same := fun k hk => by rw [hlm, hg, if_neg hk, if_neg hk]; exact h.same k hk
  part := by
    rw [hlm, hg, if_pos rfl, if_pos rfl]
    exact part_step h.part hq hm hn ho
  H := by rw [hH, h.H, hf_more hl, List.length_append]; rfl
  dn := hdn.trans h.dn
  dw := hdw.trans h.dw
  g8 := fun k i => by
    rw [hg]
    split
    · exact h8 i
    · exact h.g8 k i
theorem IS.done (h0 : RS w2 w' base T v v1 n x d) (h : IS w2 wq base T v v1 v2 n x d (atL n (dirB v.dn v.dw) d).length) : RS w2 wq base T v v2 n x (d + 1) where
  tm := h.tm
  st := h.st
  lo := fun k hk => by
    by_cases e : k = d + 1
    · subst e; exact part_end h.part
    · obtain ⟨e1, e2⟩ := h.same k e
      rw [e1, e2]; exact h0.lo k (by omega)
  hi := fun k h1 h2 => by
    obtain ⟨e1, e2⟩ := h.same k (by omega)
    rw [e1, e2]; exact h0.hi k (by omega) h2
  H := by
    rw [h.H, h0.H]
    simp only [costN, atL]
    rw [Nat.add_assoc]; rfl
  dn := h.dn
  dw := h.dw
  g8 := h.g8
end
/-- Behind all levels the root is the tree's. -/
theorem RS.root {w2 wr : World} {base T n : Nat} {v v1 : TV} {x : Nat → Nat} (h : RS w2 wr base T v v1 n x v.D) (hs : TSt v n x) (hn : 0 < n) : ∀ q, q < 32 → v1.g v.D q = treeN v.D n x q := fun q hq => by
  have h1 := h.lo v.D (Nat.le_refl _)
  have hp := Nat.two_pow_pos v.D
  have hc : 0 < cnt v.D n := by
    have := cnt_ge v.D n
    rcases Nat.eq_zero_or_pos (cnt v.D n) with h2 | h2
    · rw [h2] at this; omega
    · exact h2
  have h2 := h1.2 0 hc q hq
  rw [Nat.zero_mul, Nat.zero_add] at h2
  rw [h2]
  exact nod_root v.D n x (Nat.le_trans hs.nle hs.dep) q hq
/-- The tree behind Root: no marks, all levels right. -/
theorem TSt.rooted {w2 wr : World} {base T n : Nat} {v v1 v2 : TV} {x : Nat → Nat} (h : RS w2 wr base T v v1 n x v.D) (hs : TSt v n x) (hlm : v2.lm = v1.lm) (hg : v2.g = v1.g) (hD : v2.D = v1.D) (hl : v2.lim = v1.lim) (hdn : v2.dn = v1.dn) (hdw : ∀ k, v2.dw k = 0) : TSt v2 n x where
  n0 := by rw [hlm]; exact (h.lo 0 (Nat.zero_le _)).1
  x0 := fun i hi => by
    have h1 := (h.lo 0 (Nat.zero_le _)).2 (i / 32) (show i / 32 < n by omega) (i % 32) (by omega)
    rw [show i / 32 * 32 + i % 32 = i by omega] at h1
    rw [hg, h1, nod_leaf n x (i / 32) (i % 32) (by omega) (by omega), show i / 32 * 32 + i % 32 = i by omega]
  lev := fun d hd => by
    rw [hlm, hg]
    exact (h.lo (d + 1) (by rw [hD, h.st.D] at hd; omega)).ok _
  nle := by rw [hl, h.st.lim]; exact hs.nle
  lim := by rw [hl, h.st.lim]; exact hs.lim
  dep := by rw [hl, hD, h.st.lim, h.st.D]; exact hs.dep
  D30 := by rw [hD, h.st.D]; exact hs.D30
  dw := fun k _ => by rw [hdw]; omega
  dn := by rw [hdn, h.dn]; exact hs.dn
  g8 := by rw [hg]; exact h.g8
  tn := fun a ha => by
    unfold dirB at ha
    rw [hdw] at ha
    simp at ha
end Go.Proofs.YtlcpflaofggmeaaDoor
/- clear of a list that is one's own. -/
namespace Go.Proofs.YtlcpflaofggmeaaDoor
set_option maxRecDepth 40000
open Go.RowKit
section
variable {P : Program}
theorem zero_arr (z0 : Value) (n : Nat) : Builtin.zeroCells #[z0] n = arr n (fun _ => z0) := by
  refine arr_of _ _ _ (by simp [Builtin.zeroCells]) (fun i hi => ?_)
  simp [Builtin.zeroCells, hi, Nat.mod_one]
theorem run_clear_own {w : World} {base n c : Nat} {e t : TypeId} {A : Option Addr} {f : Nat → Value} (ty : TypeId) (h : OwnZ w base e 1 A n c f) (ht : P.underlying t = some (.slice e)) {i : TypeInfo} {z0 : Value} (hi : P.info? e = some i) (hz : i.zero = some z0) (hc : z0.cells = #[z0]) (h1 : z0.oneCell' = true) :
    ∃ w', (Builtin.clear_ #[t] ty #[.slice A n c]).run P w = .ok (.tuple #[]) w' ∧ OwnZ w' base e 1 A n c (fun _ => z0) ∧ w.grownBy w' (A.map (·.block)) := by
  rcases Nat.eq_zero_or_pos n with h0 | h0
  · subst h0
    refine ⟨w, ?_, h.congr (fun i hi => by omega), World.grownBy.refl _ _⟩
    rcases A with _ | ad <;> simp [Builtin.clear_, run_underlying ht]
  · cases A with
    | none => obtain ⟨ad, e1, _⟩ := h.rd (by omega); cases e1
    | some ad =>
      obtain ⟨F, hr, hF, hb⟩ := h.row
      obtain ⟨b, rfl⟩ : ∃ b, ad = ⟨b, 0, none⟩ := ⟨_, h.off ad rfl⟩
      have hcap := h.cap
      have hcm := h.capM
      obtain ⟨cur, hcur, hsz, hcc⟩ := hr
      have hl : (arr n (fun _ => z0)).toList.length = n := by simp [size_arr]
      have hrun := run_storeCells_at (P := P) b 0 e (arr n (fun _ => z0)).toList 0 cur w hcur (by rw [hl]; omega) (fun v hv => by
        obtain ⟨j, hj, rfl⟩ := List.mem_iff_getElem.1 hv
        have h2 := arr_at n (fun _ => z0) j (by omega)
        rw [← Array.getElem?_toList, List.getElem?_eq_getElem hj] at h2
        injection h2 with h2
        rw [h2]; exact h1)
      rw [hl] at hrun
      refine ⟨_, ?_, OwnZ.of_rowC (b := b) (F := fun j => if j < n then z0 else F j) (World.rowIs_setRow ⟨cur, hcur, hsz, hcc⟩ (cur.toList.take (0 + 0) ++ (arr n (fun _ => z0)).toList ++ cur.toList.drop (0 + 0 + n)).toArray (by simp [size_arr]; omega) _ (fun q hq => ?_)) hb hcap hcm (fun q hq => if_pos (by omega)), ⟨rfl, rfl, rfl, by rw [size_setRow]; exact Nat.le_refl _, fun i _ hne => by
        unfold World.setRow
        have : ¬ b = i := fun e => hne (by rw [e]; rfl)
        simp [Array.getElem?_modify, this]⟩⟩
      · obtain ⟨m, rfl⟩ : ∃ m, n = m + 1 := ⟨n - 1, by omega⟩
        simp only [Builtin.clear_, zeroValue, typeInfo]
        simp [run_underlying ht, hi, hz, hc, zero_arr]
        simp at hrun
        rw [hrun]
        simp [Result.andThen]
      · have hci := hcc q hq
        simp only [Nat.add_zero, Nat.zero_add, List.getElem?_toArray, List.take_zero, List.nil_append, List.getElem?_append, hl]
        by_cases h3 : q < n
        · rw [if_pos h3, if_pos h3, Array.getElem?_toList, arr_at n _ _ h3]
        · rw [if_neg h3, if_neg h3, List.getElem?_drop, show n + (q - n) = q by omega, Array.getElem?_toList, hci]
theorem wpList_clear {ops : Array Oper} {rest : List Oper} {o : Oper} {a : Act} {w : World} {Q : Exit → Act → World → Prop} (hgd : o.guard = none) (x : Operand) (t : TypeId) (ho : o.op = .call { callee := .builtin .clear, args := #[x], argTypes := #[t] }) {base n c : Nat} {e : TypeId} {A : Option Addr} {f : Nat → Value} (h : OwnZ w base e 1 A n c f) (ht : P.underlying t = some (.slice e))
    {z0 : Value} {k b : Nat} (hinfo : (P.info? e).map (fun i => (i.zero, i.size, i.bytes)) = some (some z0, k, b)) (hc : z0.cells = #[z0]) (h1 : z0.oneCell' = true) (hx : a.eval x = .slice A n c)
    (hK : ∀ w', OwnZ w' base e 1 A n c (fun _ => z0) → w.grownBy w' (A.map (·.block)) → wpList P ops Q rest (a.put o.dst (.tuple #[])) w') : wpList P ops Q (o :: rest) a w :=
  wpList_plain hgd fun _ hK' => by
    obtain ⟨i, hi, hz⟩ : ∃ i, P.info? e = some i ∧ i.zero = some z0 := by
      cases hq : P.info? e with
      | none => rw [hq] at hinfo; simp at hinfo
      | some i => rw [hq] at hinfo; simp at hinfo; exact ⟨i, rfl, hinfo.1⟩
    obtain ⟨w', hrun, h5, h6⟩ := run_clear_own (P := P) o.type h ht hi hz hc h1
    unfold Oper.wp execOp
    simp only [ho, resolve, invoke, builtin, Sem.run_bind, Sem.run_pure, Result.andThen_ok, List.map_toArray, List.map_cons, List.map_nil, hx]
    rw [hrun]
    exact hK' _ _ (hK _ h5 h6)
end
end Go.Proofs.YtlcpflaofggmeaaDoor
