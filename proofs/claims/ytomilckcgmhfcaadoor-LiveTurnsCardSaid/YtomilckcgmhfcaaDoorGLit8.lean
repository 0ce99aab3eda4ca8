/- Lemmas that the proof stands on. -/
import Derived.Test.YtomilckcgmhfcaaDoorGLit7
import Derived.RegionTactic
namespace Go.Proofs.YtomilckcgmhfcaaDoor
set_option maxRecDepth 40000
set_option maxHeartbeats 64000000
open Go.RowKit
theorem zg6 (g o n : Nat) : (⟨g, o, none⟩ : Addr).add n = ⟨g, o + n, none⟩ := by unfold Addr.add; split <;> simp_all
section
variable {P : Program}
theorem zb4 {fn : Func} {R : Ending → World → Prop} {a : Act} {w : World} {p q : Tmp} {ty : TypeId} (h : fn.results = #[.cell p ty, .tmp q]) {b : Nat} {t : TypeId} {n : Nat} {f : Nat → Value} (hr : w.rowIs b t n f) (d : TypeDesc) (v : Value)
    (hp : a.tmps.getD p undef = .pointer (some ⟨b, 0, none⟩)) (hq : a.tmps.getD q undef = v)
    (hu : P.underlying ty = some d) (hd : (match d with | .struct _ | .array _ _ => true | _ => false) = true) (hi : (P.info? ty).map (·.size) = some n) (hdf : a.defers = [])
    (hR : R (.returned (.tuple #[.agg (arr n f), v])) w) : bodyPost P fn R .ret a w := by
 refine bodyPost_ret (v := .tuple #[.agg (arr n f), v]) ?_ hdf hR
 have hp' : a.tmps[p]?.getD undef = .pointer (some ⟨b, 0, none⟩) := by simpa using hp
 have hq' : a.tmps[q]?.getD undef = v := by simpa using hq
 simp [results, h, hp', hq', asAddr, run_loadVar_row w b t ty (arr n f) (0, 0) d (zex hr) hu hd (by rw [hi, zam])]
theorem zaf {ops : Array Oper} {rest : List Oper} {o : Oper} {a : Act} {w w0 : World} {Q : Exit → Act → World → Prop} {rows : List RowSpec} (hgd : o.guard = none) (ty : TypeId) (x y : Operand) (ho : o.op = .store ty x y) (h : HS w0 w rows) (k : Nat) {b : Nat} {t : TypeId} {n : Nat} {f : Nat → Value} (hk : rows[k]? = some ⟨b, t, n, f⟩)
    (g : Nat → Value) (hx : a.eval x = .pointer (some ⟨b, 0, none⟩)) (hy : a.eval y = .agg (arr n g)) (hi : (P.info? ty).map (·.size) = some n) (h1 : ∀ i, i < n → (g i).oneCell' = true)
    (hK : ∀ w', HS w0 w' (rows.set k ⟨b, t, n, g⟩) → wpList P ops Q rest (a.put o.dst undef) w') : wpList P ops Q (o :: rest) a w :=
 zcb hgd ty x y ho (h.row k hk) (arr n g) hx hy (zam _ _) hi (fun i hi => ⟨_, zaq _ _ i hi, h1 i hi⟩) (hK _ (h.setRow k hk (arr n g) (zam _ _) g (fun i hi => zaq _ _ i hi)))
theorem zab {ops : Array Oper} {rest : List Oper} {o : Oper} {a : Act} {w : World} {Q : Exit → Act → World → Prop} (hgd : o.guard = none) (d : Tmp) (_hd : o.dst = some d) (v : Value) (h : (execOp a.eval o).run P w = .ok (.value v) w) (hK : wpList P ops Q rest (a.put o.dst v) w) : wpList P ops Q (o :: rest) a w :=
 wpList_plain hgd fun _ hK' => by
  unfold Oper.wp
  rw [h]
  exact hK' _ _ hK
theorem zpy {o : Oper} {a : Act} {w w0 : World} {K : Act → World → Prop} {Q : Exit → Act → World → Prop} {rows : List RowSpec} (t : TypeId) (d : Tmp) (_hd : o.dst = some d) (ho : o.op = .alloc t) (h : HS w0 w rows) (cs : Array Value)
    (hz : (P.info? t).bind (·.zero) = some (.agg cs)) (n : Nat) (f : Nat → Value) (hn : cs.size = n) (hc : ∀ i, i < n → cs[i]? = some (f i)) (hK : ∀ b w', w0.heap.size ≤ b → w.heap.size ≤ b → HS w0 w' (⟨b, t, n, f⟩ :: rows) → K (a.put o.dst (.pointer (some ⟨b, 0, none⟩))) w') : o.wp P a w K Q := by
 have hr : (Instr.alloc t true (.tuple #[])).run P w = .ok (.pointer (some ⟨w.heap.size, 0, none⟩)) (w.alloc (.cells cs t)) := by
  cases hq : P.info? t with
  | none => rw [hq] at hz; simp at hz
  | some i =>
   rw [hq] at hz
   simp at hz
   simp [Instr.alloc, zeroValue, typeInfo, hq, hz, newVar, Value.cells, go_sem]
 unfold Oper.wp execOp
 simp only [ho, Sem.run_bind, hr, Result.andThen_ok, Sem.run_pure]
 exact hK _ _ h.size lR (h.alloc cs t n f hn hc)
theorem zac {ops : Array Oper} {rest : List Oper} {o : Oper} {a : Act} {w w0 : World} {Q : Exit → Act → World → Prop} {rows : List RowSpec} (hgd : o.guard = none) (t : TypeId) (d : Tmp) (hd : o.dst = some d) (ho : o.op = .alloc t) (h : HS w0 w rows) (cs : Array Value)
    (hz : (P.info? t).bind (·.zero) = some (.agg cs)) (n : Nat) (f : Nat → Value) (hn : cs.size = n) (hc : ∀ i, i < n → cs[i]? = some (f i)) (hK : ∀ b w', w0.heap.size ≤ b → w.heap.size ≤ b → HS w0 w' (⟨b, t, n, f⟩ :: rows) → wpList P ops Q rest (a.put o.dst (.pointer (some ⟨b, 0, none⟩))) w') : wpList P ops Q (o :: rest) a w :=
 wpList_plain hgd fun _ hK' => zpy t d hd ho h cs hz n f hn hc fun b w' h1 h1' h2 => hK' _ _ (hK b w' h1 h1' h2)
theorem zaz {ops : Array Oper} {rest : List Oper} {o : Oper} {a : Act} {w w0 : World} {Q : Exit → Act → World → Prop} {rows : List RowSpec} (hgd : o.guard = none) (ty : TypeId) (x : Operand) (d : Tmp) (_hd : o.dst = some d) (ho : o.op = .box ty x) (h : HS w0 w rows)
    (n : Nat) (f : Nat → Value) (hx : a.eval x = .agg (arr n f)) (hK : ∀ b w', w0.heap.size ≤ b → w.heap.size ≤ b → HS w0 w' (⟨b, ty, n, f⟩ :: rows) → wpList P ops Q rest (a.put o.dst (.pointer (some ⟨b, 0, none⟩))) w') : wpList P ops Q (o :: rest) a w :=
 zg5 hgd ty x ho n f hx fun w' h1 h2 => hK _ w' h.size lR ((h.below h2).add h1 h.size fun r hr => by have := (h.has r hr).lt; omega)
theorem zga {o : Oper} {a : Act} {w w0 : World} {K : Act → World → Prop} {Q : Exit → Act → World → Prop} {rows : List RowSpec} (ty : TypeId) (x y : Operand) (ho : o.op = .store ty x y) (h : HS w0 w rows) (k : Nat) {b : Nat} {t : TypeId} {n : Nat} {f : Nat → Value} (hk : rows[k]? = some ⟨b, t, n, f⟩)
    (g : Nat → Value) (hx : a.eval x = .pointer (some ⟨b, 0, none⟩)) (hy : a.eval y = .agg (arr n g)) (hi : (P.info? ty).map (·.size) = some n) (h1 : ∀ i, i < n → (g i).oneCell' = true)
    (hK : ∀ w', HS w0 w' (rows.set k ⟨b, t, n, g⟩) → K (a.put o.dst undef) w') : o.wp P a w K Q :=
 zg4 ho (h.row k hk) (arr n g) hx hy (zam _ _) hi (fun i hi => ⟨_, zaq _ _ i hi, h1 i hi⟩) (hK _ (h.setRow k hk (arr n g) (zam _ _) g (fun i hi => zaq _ _ i hi)))
theorem ze2 {o : Oper} {a : Act} {w w0 : World} {K : Act → World → Prop} {Q : Exit → Act → World → Prop} {rows : List RowSpec} {d s : Operand} {dT sT elem : TypeId} (hop : o.op = .call { callee := .builtin .copy, args := #[d, s], argTypes := #[dT, sT] }) (hu : P.underlying dT = some (.slice elem)) (hs : (P.info? elem).map (·.size) = some 1)
    (h : HS w0 w rows) (k : Nat) {b : Nat} {t : TypeId} {N : Nat} {F : Nat → Value} (hk : rows[k]? = some ⟨b, t, N, F⟩) (off dLen dCap : Nat) {A : Option Addr} {sLen sCap B : Nat} {fs : Nat → Value} (hsrc : Rd w B A sLen fs) (h1 : ∀ i, i < sLen → (fs i).oneCell' = true) (n : Nat) (hn : n = min sLen dLen) (hfit : off + n ≤ N)
    (hd : a.eval d = .slice (some ⟨b, off, none⟩) dLen dCap) (hss : a.eval s = .slice A sLen sCap) (G : Nat → Value) (hG : ∀ j, j < N → (if off ≤ j ∧ j < off + n then fs (j - off) else F j) = G j)
    (hK : ∀ w1, HS w0 w1 (rows.set k ⟨b, t, N, G⟩) → K (a.put o.dst (.int .i64 (n : Int))) w1) : o.wp P a w K Q :=
 zg3 hop hu hs (h.row k hk) off dLen dCap hsrc h1 n hn hfit hd hss fun w1 hr hg => hK w1 (h.write k hk hg (hr.congr hG))
end
theorem zv1 {w : World} {b b' : Nat} {t t' : TypeId} {n n' : Nat} {f f' : Nat → Value} (h : w.rowIs b t n f) (h' : w.rowIs b' t' n' f') (hne : t ≠ t') : b ≠ b' := by
 rintro rfl
 obtain ⟨c, hc, _⟩ := h
 obtain ⟨c', hc', _⟩ := h'
 rw [hc] at hc'
 injection hc' with hc'
 injection hc' with _ h2
 exact hne h2
def SF.new (base : Nat) (t : TypeId) (n : Nat) (f : Nat → Value) : SF := ⟨fun v w => ∃ b, v = .pointer (some ⟨b, 0, none⟩) ∧ base ≤ b ∧ w.rowIs b t n f, fun _ _ _ ⟨b, e, h1, h⟩ hb => ⟨b, e, h1, zaj h hb h.lt⟩⟩
section
variable {P : Program} {ops : Array Oper} {B : Nat} {w0 : World} {o : Oper} {lk : Tmp → SF}
theorem zrx (base : Nat) {t : TypeId} (hg : o.guard = none) (hop : o.op = .alloc t) (cs : Array Value) (hz : (P.info? t).bind (·.zero) = some (.agg cs)) (n : Nat) (f : Nat → Value) (hn : cs.size = n) (hc : ∀ i, i < n → cs[i]? = some (f i)) (hb : base ≤ w0.heap.size) : opOb P ops B w0 o (SF.new base t n f) lk :=
 zew hg fun a w hbel hf => by
  have hr : (Instr.alloc t true (.tuple #[])).run P w = .ok (.pointer (some ⟨w.heap.size, 0, none⟩)) (w.alloc (.cells cs t)) := by
   cases hq : P.info? t with
   | none => rw [hq] at hz; simp at hz
   | some i =>
    rw [hq] at hz
    simp at hz
    simp [Instr.alloc, zeroValue, typeInfo, hq, hz, newVar, Value.cells, go_sem]
  unfold Oper.wp execOp
  simp only [hop, Sem.run_bind, hr, Result.andThen_ok, Sem.run_pure]
  have h0 := (HS.nil w).alloc cs t n f hn hc
  exact ⟨_, rfl, ⟨w.heap.size, rfl, lT hb hbel.size, h0.row 0 rfl⟩, h0.out (by simp)⟩
end
def OwnZ (w : World) (base : Nat) (e : TypeId) (z : Nat) (A : Option Addr) (n c : Nat) (f : Nat → Value) : Prop := w.ownsRow base e z (.slice A n c) n ((List.range (n * z)).map f)
section
variable {w w' : World} {base z n c : Nat} {e : TypeId} {A : Option Addr} {f f' : Nat → Value}
theorem OwnZ.nil (w : World) (base : Nat) (e : TypeId) (z : Nat) (f : Nat → Value) : OwnZ w base e z none 0 0 f := by
 have := World.ownsRow_nil w base e z
 unfold OwnZ
 simpa using this
theorem OwnZ.congr (h : OwnZ w base e z A n c f) (k : ∀ i, i < n * z → f i = f' i) : OwnZ w base e z A n c f' := by
 unfold OwnZ at *
 rwa [← List.map_congr_left (fun i hi => k i (List.mem_range.1 hi))]
theorem OwnZ.rd (h : OwnZ w base e z A n c f) : Rd w w.heap.size A (n * z) f := fun hn => by
 have hn' : 0 < n := by
  rcases Nat.eq_zero_or_pos n with h0 | h0
  ·subst h0; simp at hn
  ·exact h0
 obtain ⟨g, cap, hv, hb, hlt⟩ := World.ownsRow.form h hn'
 have hA : A = some ⟨g, 0, none⟩ := by injection hv
 subst hA
 refine ⟨_, rfl, hlt, fun i hi => ?_⟩
 have h2 : c = cap := by injection hv
 subst h2
 rw [zai, World.ownsRow.cellAt h i hi]
 simp [hi]
theorem OwnZ.base_le (h : OwnZ w base e z A n c f) : ∀ ad, A = some ad → base ≤ ad.block ∧ ad.block < w.heap.size := by
 rintro ad rfl
 exact World.ownsRow.lt h _ rfl
theorem OwnZ.off (h : OwnZ w base e z A n c f) : ∀ ad, A = some ad → ad = ⟨ad.block, 0, none⟩ := by
 rintro ad rfl
 rcases h.2 with ⟨hv, _⟩ | ⟨g, cap, cur, hv, _⟩
 ·injection hv with h1; cases h1
 ·injection hv with h1; injection h1 with h1; rw [h1]
theorem OwnZ.cap (h : OwnZ w base e z A n c f) : n ≤ c := by
 rcases h.2 with ⟨hv, _⟩ | ⟨g, cap, cur, hv, _, _, hnc, _⟩
 ·injection hv with _ h1 h2; omega
 ·injection hv with _ h1 h2; omega
theorem OwnZ.capM (h : OwnZ w base e z A n c f) : c ≤ maxLen := by
 rcases h.2 with ⟨hv, _⟩ | ⟨g, cap, cur, hv, _, _, hnc, hm, _⟩
 ·injection hv with _ h1 h2; omega
 ·injection hv with _ h1 h2; omega
theorem OwnZ.kept {row : Option Nat} (h : OwnZ w base e z A n c f) (hg : w.grownBy w' row) (hne : ∀ ad, A = some ad → some ad.block ≠ row) : OwnZ w' base e z A n c f := by
 refine World.ownsRow.kept h hg ?_
 cases A with
 | none => exact .inl rfl
 | some ad => exact .inr (hne ad rfl)
theorem OwnZ.below {B : Nat} (h : OwnZ w base e z A n c f) (hb : Below B w w') (hB : ∀ ad, A = some ad → ad.block < B) : OwnZ w' base e z A n c f := by
 obtain ⟨h1, h2⟩ := h
 refine ⟨h1, ?_⟩
 rcases h2 with h2 | ⟨g, cap, cur, hv, hg, hh, r⟩
 ·exact .inl h2
 ·refine .inr ⟨g, cap, cur, hv, hg, ?_, r⟩
  have hA : A = some ⟨g, 0, none⟩ := by injection hv
  rw [hb.block g (hB _ hA)]
  exact hh
theorem OwnZ.all (h : OwnZ w base e z A n c f) (hb : Below w.heap.size w w') : OwnZ w' base e z A n c f := h.below hb fun ad e => (h.base_le ad e).2
theorem OwnZ.mono {base' : Nat} (h : OwnZ w base e z A n c f) (hb : base' ≤ base) : OwnZ w base' e z A n c f :=
 ⟨h.1, h.2.imp id fun ⟨g, cap, cur, h1, h2, h3⟩ => ⟨g, cap, cur, h1, lT hb h2, h3⟩⟩
theorem OwnZ.of_row {g m : Nat} (h : w.rowIs g e (m * z) f) (hb : base ≤ g) (hm : m ≤ maxLen) : OwnZ w base e z (some ⟨g, 0, none⟩) m m f := by
 obtain ⟨cs, hh, hs, hc⟩ := h
 refine ⟨by simp, .inr ⟨g, m, cs, rfl, hb, hh, Nat.le_refl _, hm, by omega, ?_⟩⟩
 apply List.ext_getElem?
 intro i
 by_cases hi : i < m * z
 ·simp [hi, hc i hi]
 ·simp [List.getElem?_take, hi]
end
section
variable {P : Program} (w : World)
theorem zl3 (base : Nat) (t ty e : TypeId) (i : TypeInfo) (z : Value) (k bytes : Nat) (ht : P.underlying t = some (.slice e)) (hi : P.info? e = some i) (hz : i.zero = some z)
    (hsize : i.size = k) (hby : i.bytes = bytes) (hzs : z.cells.size = k) (hk : 0 < k)
    {A C : Option Addr} {n c m cm B : Nat} {f g : Nat → Value} (hown : OwnZ w base e k A n c f) (hr : Rd w B C (m * k) g) (h1 : ∀ i, i < m * k → (g i).oneCell' = true)
    (hbytes : n + m ≤ 9223372036854775807 ∧ (n + m) * bytes ≤ 140737488355328) (hbase : base ≤ w.heap.size) :
    ∃ A' c' w', (Builtin.append_ #[t, t] ty #[.slice A n c, .slice C m cm]).run P w = .ok (.slice A' (n + m) c') w' ∧ OwnZ w' base e k A' (n + m) c' (catF (n * k) f g) ∧
     w.grownBy w' (A.map (·.block)) ∧ (∀ ad, A' = some ad → some ad.block = A.map (·.block) ∨ ad.block = w.heap.size) := by
 rcases C with _ | ad
 ·have hm : m = 0 := by
   rcases Nat.eq_zero_or_pos m with h0 | h0
   ·exact h0
   ·obtain ⟨ad, h, _⟩ := hr (Nat.mul_pos h0 hk)
    cases h
  subst hm
  refine ⟨A, c, w, ?_, hown.congr (fun i hi => by simp [catF, hi]), World.grownBy.refl w _, fun ad h => .inl (by rw [h]; rfl)⟩
  rcases hown.2 with ⟨hv, h0⟩ | ⟨g', cap, cur, hv, _, _, hnc, _⟩
  ·injection hv with h1 h2 h3; subst h1 h2 h3
   simp [Builtin.append_, run_underlying ht, sizeOf, typeInfo, hi, Builtin.lenOf, Builtin.firstCells]
  ·injection hv with h1 h2 h3; subst h1 h3
   simp [Builtin.append_, run_underlying ht, sizeOf, typeInfo, hi, Builtin.lenOf, Builtin.firstCells, hnc, storeCells]
 ·have hcells : ∀ j u, ((List.range (m * k)).map g)[j]? = some u → w.cell? (ad.add j) = some u := by
   intro j u hu
   have hj : j < m * k := by
    rcases Nat.lt_or_ge j (m * k) with h | h
    ·exact h
    ·simp [h] at hu
   obtain ⟨ad', h, _, hc⟩ := hr (by omega)
   injection h with h; subst h
   rw [hc j hj]
   simpa [hj] using hu
  obtain ⟨v', w', hrun, h2, h3, _, h5⟩ := run_append_own_at (P := P) w base t ty e i z k bytes ht hi hz hsize hby hzs hk (.slice A n c) n _ hown ad m cm ((List.range (m * k)).map g) (by simp) hcells
    (fun u hu => by obtain ⟨j, hj, rfl⟩ := List.mem_map.1 hu; exact h1 j (List.mem_range.1 hj)) (by unfold maxLen; omega) hbytes.2 hbase
  rw [ziz, ← Nat.add_mul] at h2
  have hv : ∃ A' c', v' = .slice A' (n + m) c' := by
   rcases h2.2 with ⟨h, h0⟩ | ⟨g', cap, cur, h, _⟩
   ·exact ⟨none, 0, by rw [h, h0]⟩
   ·exact ⟨_, _, h⟩
  obtain ⟨A', c', rfl⟩ := hv
  have hb : Value.ownBlock (.slice A n c) = A.map (·.block) := by cases A <;> rfl
  rw [hb] at h3 h5
  refine ⟨A', c', w', hrun, h2, h3, ?_⟩
  rintro ad' rfl
  rcases h5 with h5 | h5
  ·exact .inl h5
  ·exact .inr (by simpa [Value.ownBlock] using h5)
theorem zdy {o : Oper} {a : Act} {K : Act → World → Prop} {Q : Exit → Act → World → Prop} (s x : Operand) (t base : Nat) {e : TypeId} {z : Value} {k bytes : Nat}
    (hinfo : (P.info? e).map (fun i => (i.zero, i.size, i.bytes)) = some (some z, k, bytes)) (ht : P.underlying t = some (.slice e)) (hzs : z.cells.size = k) (hk : 0 < k)
    (ho : o.op = .call { callee := .builtin .append, args := #[s, x], argTypes := #[t, t] })
    (N : Nat) (F : Nat → Value)
    {A C : Option Addr} {n c m cm B : Nat} {f g : Nat → Value} (hs : a.eval s = .slice A n c) (hx : a.eval x = .slice C m cm) (hown : OwnZ w base e k A n c f) (hr : Rd w B C (m * k) g) (h1 : ∀ i, i < m * k → (g i).oneCell' = true)
    (hN : N = n + m) (hF : ∀ i, i < N * k → catF (n * k) f g i = F i)
    (hbytes : N ≤ 9223372036854775807 ∧ N * bytes ≤ 140737488355328) (hbase : base ≤ w.heap.size)
    (h : ∀ A' c' w', OwnZ w' base e k A' N c' F → w.grownBy w' (A.map (·.block)) → (∀ ad, A' = some ad → some ad.block = A.map (·.block) ∨ ad.block = w.heap.size) → K (a.put o.dst (.slice A' N c')) w') : o.wp P a w K Q := by
 have hi' : ∃ i, P.info? e = some i ∧ i.zero = some z ∧ i.size = k ∧ i.bytes = bytes := by
  cases hq : P.info? e with
  | none => rw [hq] at hinfo; simp at hinfo
  | some i => rw [hq] at hinfo; simp at hinfo; exact ⟨i, rfl, hinfo.1, hinfo.2.1, hinfo.2.2⟩
 obtain ⟨i, hi, hz, hsize, hby⟩ := hi'
 subst hN
 obtain ⟨A', c', w', hrun, h2, h3, h4⟩ := zl3 (P := P) w base t o.type e i z k bytes ht hi hz hsize hby hzs hk (cm := cm) hown hr h1 hbytes hbase
 unfold Oper.wp execOp
 simp only [ho, resolve, invoke, builtin, Sem.run_bind, Sem.run_pure, Result.andThen_ok, List.map_toArray, List.map_cons, List.map_nil, hs, hx, hrun]
 exact h A' c' w' (h2.congr hF) h3 h4
theorem zba {ops : Array Oper} {rest : List Oper} {o : Oper} {a : Act} {Q : Exit → Act → World → Prop} (s x : Operand) (t base : Nat) {e : TypeId} {z : Value} {k bytes : Nat}
    (hinfo : (P.info? e).map (fun i => (i.zero, i.size, i.bytes)) = some (some z, k, bytes)) (ht : P.underlying t = some (.slice e)) (hzs : z.cells.size = k) (hk : 0 < k)
    (hgd : o.guard = none) (ho : o.op = .call { callee := .builtin .append, args := #[s, x], argTypes := #[t, t] })
    (N : Nat) (F : Nat → Value)
    {A C : Option Addr} {n c m cm B : Nat} {f g : Nat → Value} (hs : a.eval s = .slice A n c) (hx : a.eval x = .slice C m cm) (hown : OwnZ w base e k A n c f) (hr : Rd w B C (m * k) g) (h1 : ∀ i, i < m * k → (g i).oneCell' = true)
    (hN : N = n + m) (hF : ∀ i, i < N * k → catF (n * k) f g i = F i)
    (hbytes : N ≤ 9223372036854775807 ∧ N * bytes ≤ 140737488355328) (hbase : base ≤ w.heap.size)
    (h : ∀ A' c' w', OwnZ w' base e k A' N c' F → w.grownBy w' (A.map (·.block)) → (∀ ad, A' = some ad → some ad.block = A.map (·.block) ∨ ad.block = w.heap.size) → wpList P ops Q rest (a.put o.dst (.slice A' N c')) w') :
    wpList P ops Q (o :: rest) a w :=
 wpList_plain hgd fun _ hK => zdy w s x t base hinfo ht hzs hk ho N F hs hx hown hr h1 hN hF hbytes hbase fun A' c' w' h2 h3 h4 => hK _ _ (h A' c' w' h2 h3 h4)
end
theorem zl4 (off : Nat) : ∀ (l : List Value) (k : Nat) (cs : Array Value) (i : Nat), off + k + l.length ≤ cs.size →
 ((l.zipIdx k).foldl (fun cs p => cs.setIfInBounds (off + p.2) p.1) cs)[i]? = if off + k ≤ i ∧ i < off + k + l.length then l[i - (off + k)]? else cs[i]? := by
 intro l
 induction l with
 | nil => intro k cs i _; simp; omega
 | cons a l ih =>
  intro k cs i h
  simp only [List.length_cons] at h
  rw [List.zipIdx_cons, List.foldl_cons, ih (k + 1) _ i (by simp; omega)]
  by_cases h1 : i = off + k
  ·subst h1
   rw [if_neg (by omega), if_pos (by simp)]
   simp [Array.getElem?_setIfInBounds]; omega
  ·by_cases h2 : off + (k + 1) ≤ i ∧ i < off + (k + 1) + l.length
   ·rw [if_pos h2, if_pos (by simp; omega), show i - (off + k) = (i - (off + (k + 1))) + 1 by omega]; simp
   ·rw [if_neg h2, if_neg (by simp; omega)]
    simp [Array.getElem?_setIfInBounds]; omega
theorem zku (off : Nat) : ∀ (l : List Value) (k : Nat) (cs : Array Value), ((l.zipIdx k).foldl (fun cs p => cs.setIfInBounds (off + p.2) p.1) cs).size = cs.size := by
 intro l
 induction l with
 | nil => intro k cs; rfl
 | cons a l ih => intro k cs; rw [List.zipIdx_cons, List.foldl_cons, ih (k + 1)]; simp
theorem zhq (z N i : Nat) (f g : Nat → Value) (rest : List (Nat × Value)) (h : i * z + z ≤ N) :
 Instr.fill (fun i => some (i * z, z)) (arr N g) ((i, .agg (arr z f)) :: rest) = Instr.fill (fun i => some (i * z, z)) (arr N (fun q => if i * z ≤ q ∧ q < i * z + z then f (q - i * z) else g q)) rest := by
 have hc : (Value.agg (arr z f)).cells = arr z f := rfl
 have key : ((arr z f).zipIdx.foldl (fun cs (p : Value × Nat) => cs.setIfInBounds (i * z + p.2) p.1) (arr N g)) = arr N (fun q => if i * z ≤ q ∧ q < i * z + z then f (q - i * z) else g q) := by
  rw [← Array.foldl_toList, Array.toList_zipIdx]
  refine zfb _ N _ (by rw [zku, zam]) (fun q hq => ?_)
  rw [zl4 (i * z) (arr z f).toList 0 (arr N g) q (by simp [zam]; omega)]
  have hl : (arr z f).toList.length = z := by simp [zam]
  rw [hl]
  by_cases h1 : i * z ≤ q ∧ q < i * z + z
  ·rw [if_pos (by omega), if_pos h1, Array.getElem?_toList, Nat.add_zero, zaq z f _ (by omega)]
  ·rw [if_neg (by omega), if_neg h1, zaq N g q hq]
 rw [Instr.fill]
 simp only [hc, zam]
 rw [if_neg (by simp; omega)]
 exact congrArg (fun cs => Instr.fill (fun i => some (i * z, z)) cs rest) key
section
variable {P : Program}
theorem zkh (w : World) {t e : TypeId} {z len : Nat} (ht : P.underlying t = some (.slice e)) (hz : (P.info? e).map (·.size) = some z) (hlen : len * z ≤ 16777216) (h0 : 0 < len * z) {v0 : Value} (hzero : (P.info? e).bind (·.zero) = some v0) (parts : Array (Nat × Value)) (F : Nat → Value)
    (hf : ∀ g, Instr.fill (fun i => some (i * z, z)) (arr (len * z) g) parts.toList = some (arr (len * z) F)) :
    (Instr.buildSlice t len parts).run P w = .ok (.slice (some ⟨w.heap.size, 0, none⟩) len len) (w.alloc (.cells (arr (len * z) F) e)) := by
 cases hq : P.info? e with
 | none => rw [hq] at hz; simp at hz
 | some i =>
  have hs : i.size = z := by rw [hq] at hz; simpa using hz
  have hv : i.zero = some v0 := by rw [hq] at hzero; simpa using hzero
  have hg : (Array.range (len * z)).map (fun x => v0.cells[x % v0.cells.size]!) = arr (len * z) (fun x => v0.cells[x % v0.cells.size]!) := by
   refine zfb _ _ _ (by simp) (fun q hq => by simp [hq])
  unfold Instr.buildSlice
  have hf' := hf (fun x => v0.cells[x % v0.cells.size]!)
  rw [← hg] at hf'
  simp only [Sem.run_bind, run_underlying ht, zcm hz, Result.andThen_ok]
  rw [if_neg (by omega), if_neg (by omega)]
  have hzv : (zeroValue e).run P w = .ok v0 w := by simp [zeroValue, typeInfo, hq, hv, go_sem]
  simp only [Sem.run_bind, hzv, Result.andThen_ok, Sem.run_pure]
  rw [hf']
  simp [newRow, go_sem]
theorem zci {o : Oper} {a : Act} {w w0 : World} {K : Act → World → Prop} {Q : Exit → Act → World → Prop} {rows : List RowSpec} {t e : TypeId} {z : Nat} (ht : P.underlying t = some (.slice e)) (hz : (P.info? e).map (·.size) = some z) (hlen : z ≤ 16777216) (h0 : 0 < z) {v0 : Value} (hzero : (P.info? e).bind (·.zero) = some v0)
    (x : Operand) (ho : o.op = .buildSlice t 1 #[(0, x)]) (f : Nat → Value) (hx : a.eval x = .agg (arr z f)) (h : HS w0 w rows)
    (hK : ∀ b w', w0.heap.size ≤ b → w.heap.size ≤ b → HS w0 w' (⟨b, e, z, f⟩ :: rows) → K (a.put o.dst (.slice (some ⟨b, 0, none⟩) 1 1)) w') : o.wp P a w K Q := by
 have hr := zkh (P := P) w (t := t) (len := 1) ht hz (by omega) (by omega) hzero #[(0, .agg (arr z f))] f (fun g => by
  rw [show (#[((0 : Nat), Value.agg (arr z f))] : Array (Nat × Value)).toList = [(0, .agg (arr z f))] from rfl, zhq z (1 * z) 0 f g [] (by omega)]
  show some _ = some _
  exact congrArg some (zca fun i hi => by rw [if_pos (by omega)]; simp))
 rw [Nat.one_mul] at hr
 have hrun : (execOp a.eval o).run P w = .ok (.value (.slice (some ⟨w.heap.size, 0, none⟩) 1 1)) (w.alloc (.cells (arr z f) e)) := by
  unfold execOp
  rw [ho]
  simp only [List.map_toArray, List.map_cons, List.map_nil, hx]
  simp [hr]
 unfold Oper.wp
 rw [hrun]
 exact hK _ _ h.size lR (h.alloc (arr z f) e z f (zam _ _) (fun i hi => zaq _ _ i hi))
theorem zbu {ops : Array Oper} {rest : List Oper} {o : Oper} {a : Act} {w w0 : World} {Q : Exit → Act → World → Prop} {rows : List RowSpec} (hgd : o.guard = none) {t e : TypeId} {z : Nat} (ht : P.underlying t = some (.slice e)) (hz : (P.info? e).map (·.size) = some z) (hlen : z ≤ 16777216) (h0 : 0 < z) {v0 : Value} (hzero : (P.info? e).bind (·.zero) = some v0)
    (x : Operand) (ho : o.op = .buildSlice t 1 #[(0, x)]) (f : Nat → Value) (hx : a.eval x = .agg (arr z f)) (h : HS w0 w rows)
    (hK : ∀ b w', w0.heap.size ≤ b → w.heap.size ≤ b → HS w0 w' (⟨b, e, z, f⟩ :: rows) → wpList P ops Q rest (a.put o.dst (.slice (some ⟨b, 0, none⟩) 1 1)) w') : wpList P ops Q (o :: rest) a w :=
 wpList_plain hgd fun _ hK' => by
  have hr := zkh (P := P) w (t := t) (len := 1) ht hz (by omega) (by omega) hzero #[(0, .agg (arr z f))] f (fun g => by
   rw [show (#[((0 : Nat), Value.agg (arr z f))] : Array (Nat × Value)).toList = [(0, .agg (arr z f))] from rfl, zhq z (1 * z) 0 f g [] (by omega)]
   show some _ = some _
   exact congrArg some (zca fun i hi => by rw [if_pos (by omega)]; simp))
  rw [Nat.one_mul] at hr
  have hrun : (execOp a.eval o).run P w = .ok (.value (.slice (some ⟨w.heap.size, 0, none⟩) 1 1)) (w.alloc (.cells (arr z f) e)) := by
   unfold execOp
   rw [ho]
   simp only [List.map_toArray, List.map_cons, List.map_nil, hx]
   simp [hr]
  unfold Oper.wp
  rw [hrun]
  exact hK' _ _ (hK _ _ h.size lR (h.alloc (arr z f) e z f (zam _ _) (fun i hi => zaq _ _ i hi)))
end
section
variable {P : Program}
theorem zct {ops : Array Oper} {rest : List Oper} {o : Oper} {a : Act} {w : World} {Q : Exit → Act → World → Prop} {j : Nat} {want : Bool} {dd : Tmp} (hg : o.guard = some (j, want)) (hj : (ops[j]?).bind (·.dst) = some dd) (hv : a.tmps[dd]? = some (.bool want)) (d : Tmp) (_hd : o.dst = some d) (v : Value) (h : (execOp a.eval o).run P w = .ok (.value v) w) (hK : wpList P ops Q rest (a.put o.dst v) w) : wpList P ops Q (o :: rest) a w :=
 ze1 hg hj hv fun _ hK' => by
  unfold Oper.wp
  rw [h]
  exact hK' _ _ hK
end
namespace PackRef
theorem zi7 {x : Nat → Nat} {j k n : Nat} (hk : k < 32) (hn : j * 32 + k < n) (v : Value) (hv : v = .int .u8 ((x (j * 32 + k) : Nat) : Int)) (i : Nat) : (if i = k then v else u8v (fun q => if q < k then padN n x (j * 32 + q) else 0) i) = u8v (fun q => if q < k + 1 then padN n x (j * 32 + q) else 0) i := by
 unfold padN
 by_cases e : i = k
 ·subst e; rw [if_pos rfl, hv]; simp only [u8v]; rw [if_pos (by omega), if_pos hn]
 ·rw [if_neg e]; simp only [u8v]
  by_cases e2 : i < k
  ·rw [if_pos e2, if_pos (show i < k + 1 by omega)]
  ·rw [if_neg e2, if_neg (show ¬ i < k + 1 by omega)]
theorem zn1 {x : Nat → Nat} {j k n : Nat} (h : k = 32 ∨ k < 32 ∧ j * 32 + k = n) : ∀ q, q < 32 → u8v (fun q => if q < k then padN n x (j * 32 + q) else 0) q = u8v (fun q => padN n x (j * 32 + q)) q := fun q hq => by
 simp only [u8v]
 by_cases e : q < k
 ·rw [if_pos e]
 ·rw [if_neg e]; unfold padN; rw [if_neg (by omega)]
theorem zpz {x : Nat → Nat} {j n : Nat} : ∀ i, i < (j + 1) * 32 → catF (j * 32) (u8v (padN n x)) (u8v fun q => padN n x (j * 32 + q)) i = u8v (padN n x) i := fun i _ => by
 simp only [catF, u8v]
 split
 ·rfl
 ·rw [show j * 32 + (i - j * 32) = i by omega]
end PackRef
open PackRef in
theorem zdh (n c : Nat) (A : Option Addr) (x : Nat → Nat) (w : World) (hb : Rd w w.heap.size A n (u8v x)) (hn : n ≤ 140737488355000) :
 Calls Tryd.prog 74 #[.slice A n c] w fun e w' => ∃ A' c', e = .returned (.slice A' (nch n) c') ∧ OwnZ w' w.heap.size 24 32 A' (nch n) c' (u8v (padN n x)) ∧ Below w.heap.size w w' := by
 have HB := Hd hb
 obtain ⟨N, hN⟩ : ∃ N, N = nch n := ⟨_, rfl⟩
 have hN1 : N * 32 < n + 32 := by rw [hN]; unfold nch; omega
 have hN2 : n ≤ N * 32 := by rw [hN]; unfold nch; omega
 rw [← hN]
 clear hb hN
 go_enter Tryd.func74, Tryd.ntmps74
 go_wp2_with fail
 go_loopw [3, 4] (fun v i wr => ∃ (j : Nat) (C : Option Addr) (cC : Nat), v = .slice C j cC ∧ i = .int .i64 ((j * 32 : Nat) : Int) ∧ j ≤ N ∧ OwnZ wr w.heap.size 24 32 C j cC (u8v (padN n x)) ∧ Below w.heap.size w wr) (fun _ i _ => n + 32 - (intOf i).toNat)
 case atStart => exact ⟨0, none, 0, rfl, rfl, Nat.zero_le _, OwnZ.nil _ _ _ _ _, Below.refl _ _⟩
 case round =>
  obtain ⟨j, C, cC, rfl, rfl, hj, ho, hbw⟩ := hrel
  have HO := Hd ho
  have HW := Hd hbw
  have hsz := hbw.size
  clear ho hbw
  obtain ⟨wo, rfl⟩ : ∃ wo : World, wo = wr := ⟨_, rfl⟩
  have HS0 := Hd (HS.nil wo)
  by_cases hjn : j * 32 < n
  ·go_wp2_with (refine zac rfl 24 5 rfl rfl HS0.out (Array.replicate 32 (.int .u8 0)) (by kernel_rfl) 32 (u8v fun q => if q < 0 then padN n x (j * 32 + q) else 0) (by rfl) (zbg 32 (.int .u8 0)) ?_; intro b5 w5 hb5 hc5 hs5; have HS5 := Hd hs5; clear hs5)
   go_loopw [6] (fun i wq => ∃ k : Nat, i = .int .i64 (k : Int) ∧ k ≤ 32 ∧ j * 32 + k ≤ n ∧ HS wo wq [⟨b5, 24, 32, u8v fun q => if q < k then padN n x (j * 32 + q) else 0⟩]) (fun i _ => 32 - (intOf i).toNat)
   case atStart => exact ⟨0, rfl, by omega, by omega, HS5.out⟩
   case round =>
    clear HS5
    obtain ⟨k, rfl, hk, hkn, hs⟩ := hrel
    by_cases h32 : k < 32
    ·by_cases hin : j * 32 + k < n
     ·have co := hs.cell 0 k rfl h32
      have fo := hs.frozen 0 k rfl
      obtain ⟨ad, hA, hblk, hc⟩ := ((HB.out.below HW.out).more hsz |>.below (hs.out (by simp; omega))).at_ hin
      subst hA
      have HSq := Hd hs
      clear hs
      go_wp2_with fail
      go_roundw
      case rel => exact ⟨k + 1, by go_num, by omega, by omega, (HSq.out.set 0 k rfl _).congr 0 rfl (fun i _ => zi7 h32 hin _ rfl i)⟩
      case measure => simp [intOf]; omega
     ·have HSq := Hd (hs.congr 0 rfl (zn1 (.inr ⟨h32, by omega⟩)))
      clear hs
      go_wp2_with (first
       | (refine zae rfl 24 _ rfl 32 _ Ty24 rfl s24 ⟨b5, 0, none⟩ rfl (u8v fun q => padN n x (j * 32 + q)) (fun q hq => by rw [zai]; exact HSq.out.cell 0 q rfl hq) ?_)
       | (refine zbu rfl Ty32 s24 (by omega) (by omega) z24 _ rfl (u8v fun q => padN n x (j * 32 + q)) rfl HSq.out ?_; intro b35 w35 hb35 hc35 hs35; have HS35 := Hd hs35; clear hs35)
       | (at_builtin; refine zba _ (.tmp 33) (.tmp 35) 32 w.heap.size i24 Ty32 (by rfl) (by omega) rfl rfl (j + 1) (u8v (padN n x)) rfl rfl (HO.out.all (HS35.out.out (by simp; omega))) (Rd.of_row (HS35.out.row 0 rfl) lR (HS35.out.lt 0 rfl)) (fun _ _ => rfl) rfl zpz ⟨by omega, by omega⟩ (lT hsz HS35.out.size) ?_; intro A36 c36 w36 ho36 hg36 ha36; have HO36 := Hd ho36; have HB36 := Hd (za4 (HW.out.trans ((HS35.out.out (by simp; omega)).mono hsz)) hg36 (lT hsz HS35.out.size) (fun ad e => (HO.out.base_le ad e).1)); clear ho36 hg36 ha36))
      go_roundw
      case rel => exact ⟨j + 1, A36, c36, rfl, by go_num, by omega, HO36.out, HB36.out⟩
      case measure => simp [intOf]; omega
    ·have HSq := Hd (hs.congr 0 rfl (zn1 (.inl (by omega))))
     clear hs
     go_wp2_with (first
      | (refine zae rfl 24 _ rfl 32 _ Ty24 rfl s24 ⟨b5, 0, none⟩ rfl (u8v fun q => padN n x (j * 32 + q)) (fun q hq => by rw [zai]; exact HSq.out.cell 0 q rfl hq) ?_)
      | (refine zbu rfl Ty32 s24 (by omega) (by omega) z24 _ rfl (u8v fun q => padN n x (j * 32 + q)) rfl HSq.out ?_; intro b35 w35 hb35 hc35 hs35; have HS35 := Hd hs35; clear hs35)
      | (at_builtin; refine zba _ (.tmp 33) (.tmp 35) 32 w.heap.size i24 Ty32 (by rfl) (by omega) rfl rfl (j + 1) (u8v (padN n x)) rfl rfl (HO.out.all (HS35.out.out (by simp; omega))) (Rd.of_row (HS35.out.row 0 rfl) lR (HS35.out.lt 0 rfl)) (fun _ _ => rfl) rfl zpz ⟨by omega, by omega⟩ (lT hsz HS35.out.size) ?_; intro A36 c36 w36 ho36 hg36 ha36; have HO36 := Hd ho36; have HB36 := Hd (za4 (HW.out.trans ((HS35.out.out (by simp; omega)).mono hsz)) hg36 (lT hsz HS35.out.size) (fun ad e => (HO.out.base_le ad e).1)); clear ho36 hg36 ha36))
     go_roundw
     case rel => exact ⟨j + 1, A36, c36, rfl, by go_num, by omega, HO36.out, HB36.out⟩
     case measure => simp [intOf]; omega
  ·obtain rfl : j = N := by omega
   go_wp2_with fail
   go_ret
   exact ⟨C, cC, rfl, HO.out, HW.out⟩
def SF.rdZ (n z : Nat) (f : Nat → Value) : SF := ⟨fun v w => ∃ A c, v = .slice A n c ∧ Rd w w.heap.size A (n * z) f, fun _ _ _ ⟨A, c, e, h⟩ hb => ⟨A, c, e, (h.below hb).more hb.size⟩⟩
theorem zb1 (ad : Addr) (m n : Nat) : (ad.add m).add n = ad.add (m + n) := by
 unfold Addr.add
 by_cases hm : m = 0
 ·subst hm; simp
 ·by_cases hn : n = 0
  ·subst hn; simp [hm]
  ·simp [hm, hn, Nat.add_assoc]
section
variable {P : Program} {ops : Array Oper} {B : Nat} {w0 : World} {o : Oper} {lk : Tmp → SF} {ty : TypeId}
theorem zaw (w : World) {t e : TypeId} {z n c k : Nat} (hu : P.underlying t = some (.slice e)) (hz : (P.info? e).map (·.size) = some z) (ad : Addr) (hk : k < n) : (Instr.indexAt t (.slice (some ad) n c) (.int .i64 (k : Int))).run P w = .ok (.pointer (some (ad.add (k * z)))) w := by
 unfold Instr.indexAt
 simp [run_underlying hu, zcm hz, go_sem, asIntOf, hk]
end
section
variable {P : Program} {ops : Array Oper} {Q : Exit → Act → World → Prop} {md : Region.Mode}
theorem zcu {n id : Nat} {a : Act} {w : World} (hm : P.follows .mixedOrders = true) (hn : ops.size = n) (h : wpAny P .any ops Q n (Array.replicate n false) a w.drew) : (Code.region id ops true).wp P Q a w := by
 subst hn
 exact wp_region_any hm h
theorem zah {i fuel : Nat} {o : Oper} {listed : Array Bool} {a : Act} {w : World} (hi : ops.toList[i]? = some o) (hr : Region.ready md ops listed = [i]) (hg : o.guard = none)
    (h : ∀ K : Act → World → Prop, (∀ a w, wpAny P md ops Q fuel (listed.setIfInBounds i true) a w → K a w) → o.wp P a w K Q) : wpAny P md ops Q (fuel + 1) listed a w :=
 wpAny_ready (rs := [i]) hr (by simp) (AllReady.cons (by rw [← Array.getElem?_toList]; exact hi) (fun K hK => by rw [if_pos (by simp [Region.wanted, hg])]; exact h K hK) AllReady.nil)
theorem zas {i fuel : Nat} {o : Oper} (v : Value) {listed : Array Bool} {a : Act} {w : World} (hi : ops.toList[i]? = some o) (hs : Region.noSelect ops = true) (hf : Region.free md ops listed i = true) (hr : (Region.ready md ops listed).contains i = true) (hg : o.guard = none)
    (hQ : ∀ c a w, Q (.panic c) (a.put o.dst v) w → Q (.panic c) a w) (hy : ∀ w, (execOp a.eval o).run P w = .ok (.value v) w)
    (h : wpAny P md ops Q fuel (listed.setIfInBounds i true) (a.put o.dst v) w) : wpAny P md ops Q (fuel + 1) listed a w :=
 wpAny_take (by rw [← Array.getElem?_toList]; exact hi) hs hf hr hQ (Or.inl ⟨by simp [Region.wanted, hg], hy⟩) h
variable {o : Oper} {a : Act}
theorem zce {x : Operand} {v : Value} (ho : o.op = .move x ∨ o.op = .assign x) (hx : a.eval x = v) : ∀ w, (execOp a.eval o).run P w = .ok (.value v) w := fun w => by
 unfold execOp
 rcases ho with ho | ho <;> (rw [ho]; simp only [hx]; simp)
theorem zi8 {t : TypeId} {x : Operand} {lo hi : Option Operand} {v sv : Value} {l h : Option Value} (ho : o.op = .slice t x lo hi none) (hx : a.eval x = v) (hl : lo.map a.eval = l) (hh : hi.map a.eval = h) (hr : ∀ w, (Instr.sliceAt t v l h none).run P w = .ok sv w) : ∀ w, (execOp a.eval o).run P w = .ok (.value sv) w := fun w => by
 unfold execOp
 rw [ho]
 simp only [hx]
 rw [show lo.map (fun y => a.eval y) = l from hl, show hi.map (fun y => a.eval y) = h from hh]
 simp [hr w]
theorem zbb {t : TypeId} {x i : Operand} {v u p : Value} (ho : o.op = .indexAddr t x i) (hx : a.eval x = v) (hi : a.eval i = u) (hr : ∀ w, (Instr.indexAt t v u).run P w = .ok p w) : ∀ w, (execOp a.eval o).run P w = .ok (.value p) w := fun w => by
 unfold execOp
 rw [ho]
 simp only [hx, hi]
 simp [hr w]
theorem zbh {t : TypeId} {x : Operand} {k : Nat} {v p : Value} (ho : o.op = .fieldAddr t x k) (hx : a.eval x = v) (hr : ∀ w, (Instr.fieldAt t v k).run P w = .ok p w) : ∀ w, (execOp a.eval o).run P w = .ok (.value p) w := fun w => by
 unfold execOp
 rw [ho]
 simp only [hx]
 simp [hr w]
theorem zcx {x : Operand} {ad : Addr} (ho : o.op = .nilCheck x) (hx : a.eval x = .pointer (some ad)) : ∀ w, (execOp a.eval o).run P w = .ok (.value (.pointer (some ad))) w := fun w => by
 unfold execOp
 rw [ho]
 simp only [hx]
 simp [go_sem]
end

theorem zp0 (H : Nat → W32) (j : Nat) : Value.int .u8 (((H (j / 4)).toNat : Int) / 2 ^ (24 - 8 * (j % 4)) % 256) = .int .u8 ((rootOf H j : Nat) : Int) := by
 unfold rootOf
 rw [BitVec.toNat_ushiftRight, Nat.shiftRight_eq_div_pow]
 simp
theorem zp1 (vs : Array Value) (w : World) : (callFunc 104 vs).run Tryd.prog w = .ok (.enter 104 vs) w := by kernel_rfl
theorem zry : Tryd.prog.built 113 [(0, .int .u32 1779033703), (1, .int .u32 3144134277), (2, .int .u32 1013904242), (3, .int .u32 2773480762), (4, .int .u32 1359893119), (5, .int .u32 2600822924), (6, .int .u32 528734635), (7, .int .u32 1541459225)] = some #[wv (h0 0), wv (h0 1), wv (h0 2), wv (h0 3), wv (h0 4), wv (h0 5), wv (h0 6), wv (h0 7)] := by kernel_rfl
def RefPkg (w : World) : Prop := ∀ i, i < 64 → w.cell? ⟨3, i, none⟩ = some (wv (kw i))
theorem RefPkg.lt {w : World} (h : RefPkg w) : 3 < w.heap.size := by have := h 0 (by omega); exact zez this
theorem RefPkg.below {w w' : World} (h : RefPkg w) (hb : Below w.heap.size w w') : RefPkg w' := fun i hi => (hb.cell (p := ⟨3, i, none⟩) h.lt).trans (h i hi)

theorem zol (n c : Nat) (A : Option Addr) (x : Nat → Nat) (w : World) (hb : Rd w w.heap.size A n (u8v x)) (hx : ∀ i, x i < 256) (hn : n ≤ 140737488355200) (hp : RefPkg w) :
 Calls Tryd.prog 102 #[.slice A n c] w fun e w' => e = .returned (rootV (shaB x n)) ∧ Below w.heap.size w w' := by
 have HP := Hd hp
 have HB := Hd hb
 obtain ⟨P, hPd⟩ : ∃ P, P = padF n x := ⟨_, rfl⟩
 obtain ⟨N, hN⟩ : ∃ N, N = nb n := ⟨_, rfl⟩
 have hres : shaB x n = rootOf (Hs P N) := by rw [hPd, hN]; rfl
 have hP : ∀ i, P i < 256 := fun i => by rw [hPd]; exact zny _ _ hx i
 have hnb : 64 * N ≤ n + 72 := by rw [hN]; unfold nb; omega
 rw [hres]
 have HPl := Hd hP
 have HH := Hd (show padF n x = P ∧ nb n = N from ⟨hPd.symm, hN.symm⟩)
 have H0 := Hd (((HS.nil w).allocB _ _ 24 32 _ (by rfl) (zbg 32 (.int .u8 0)) rfl).allocB (w.heap.size + 1) _ 113 8 _ rfl ztg (by simp))
 clear hp hb hres hP hPd hN hx
 go_enter Tryd.func102, Tryd.ntmps102
 go_wp2_with (first
  | (refine zbx rfl 113 #[(0, .const (.int .u32 1779033703)), (1, .const (.int .u32 3144134277)), (2, .const (.int .u32 1013904242)), (3, .const (.int .u32 2773480762)), (4, .const (.int .u32 1359893119)), (5, .const (.int .u32 2600822924)), (6, .const (.int .u32 528734635)), (7, .const (.int .u32 1541459225))] rfl [(0, .int .u32 1779033703), (1, .int .u32 3144134277), (2, .int .u32 1013904242), (3, .int .u32 2773480762), (4, .int .u32 1359893119), (5, .int .u32 2600822924), (6, .int .u32 528734635), (7, .int .u32 1541459225)] rfl _ zry ?_)
  | (go_at_call 103; refine (zoj n c A x _ (HB.out.below ((H0.out.out (by simp)).mono lR) |>.more (H0.out.size)) hn).mono ?_; rintro e w3 ⟨A', c', rfl, hown, hbel⟩; rw [HH.out.1, HH.out.2] at hown; rw [HH.out.2]; have HO := Hd (And.intro hown hbel); clear hown hbel))
 obtain ⟨hown, hbel3⟩ := HO.out
 have hs3 := H0.out.below hbel3
 have hsw := hs3.size
 have hcap := hown.cap
 have HRd := Hd hown.rd
 have hapt : Hi A' (64 * N) (w.heap.size + 2) := fun _ ad e => by have := (hown.base_le ad e).1; simp at this; omega
 have HAp := Hd hapt
 have HBl := Hd (hs3.out (by simp))
 have HS3 := Hd (((HS.nil w3).take (hs3.row 1 rfl) (fun r hr => by cases hr)).take (hs3.row 0 rfl) (fun r hr => by simp at hr; subst hr; show w.heap.size ≠ w.heap.size + 1; omega))
 clear hown hbel3 hs3 hapt HO H0
 go_loopw [4] (fun s wr => ∃ (k rem : Nat) (Ak : Option Addr) (ck : Nat), s = .slice Ak rem ck ∧ 64 * k + rem = 64 * N ∧ rem ≤ ck ∧ Rd w3 w3.heap.size Ak rem (u8v fun i => P (64 * k + i)) ∧ Hi Ak rem (w.heap.size + 2) ∧ HS w3 wr [⟨w.heap.size + 1, 113, 8, fun i => wv (Hs P k i)⟩, ⟨w.heap.size, 24, 32, fun _ => .int .u8 0⟩]) (fun s _ => match s with | .slice _ k _ => k | _ => 0)
 case atStart => exact ⟨0, 64 * N, A', c', rfl, by omega, hcap, HRd.out.congr (fun i _ => by simp only [u8v, Nat.mul_zero, Nat.zero_add]), HAp.out, HS3.out⟩
 case round =>
  clear HRd HAp HS3
  obtain ⟨k, rem, Ak, ck, rfl, hrem, hck, hrd, hap, hs⟩ := hrel
  have hg1 : w.heap.size + 1 < wr.heap.size := hs.lt 0 rfl
  have hcell : ∀ i, i < 8 → wr.cell? ⟨w.heap.size + 1, i, none⟩ = some (wv (Hs P k i)) := fun i hi => hs.cell 0 i rfl hi
  have HSr := Hd hs
  have HRd := Hd hrd
  have HAp := Hd hap
  have HC := Hd hcell
  clear hs hrd hap hcell
  by_cases hr0 : 0 < rem
  ·have h64 : 64 ≤ rem := by omega
   go_wp2_with fail
   have hs := HSr.out
   have hcell := HC.out
   refine zao (l := [_, _, _]) (tl := [_]) (B := wr.heap.size) (w0 := wr) [sI (.agg #[wv (Hs P k 0), wv (Hs P k 1), wv (Hs P k 2), wv (Hs P k 3), wv (Hs P k 4), wv (Hs P k 5), wv (Hs P k 6), wv (Hs P k 7)]), sI (.slice (Ak) (rem) (ck)), sI (.slice (Ak) (64) (ck))] (by kernel_rfl) (by kernel_rfl) rfl lR (Below.refl _ _) ⟨?_, ?_, ?_, trivial⟩ ?_
   ·exact zad rfl rfl (oT rfl) (fun w' hb => zax w' _ 0 8 _ _ (fun i => wv (Hs P k i)) (fun i hi => by rw [Nat.zero_add]; exact (hb.cell (p := ⟨w.heap.size + 1, i, none⟩) hg1).trans (hcell i hi)) Ty113 rfl (by kernel_rfl))
   ·exact (zaa _ rfl (.inl rfl) rfl)
   ·exact zbe rfl rfl (oT rfl) OpKo.no OpKo.const (fun w => zvk Ty39 (by kernel_rfl) Ak rem ck 64 (by omega) w)
   ·intro w' hb
    simp only [fin, sI, forall_eq]
    simp only [pcX]
    clear hcell
    have hs1 := hs.below hb
    refine zdm zp1 #[.agg #[wv (Hs P k 0), wv (Hs P k 1), wv (Hs P k 2), wv (Hs P k 3), wv (Hs P k 4), wv (Hs P k 5), wv (Hs P k 6), wv (Hs P k 7)], .slice Ak 64 ck] rfl rfl ?_
    refine (zpw 64 ck w3.heap.size Ak (Hs P k) (fun i => P (64 * k + i)) w' (fun i => HPl.out _) ((HRd.out.short h64).hs hs1 lR (fun _ ad e r hr => by have := HAp.out hr0 ad e; simp at hr; rcases hr with rfl | rfl; (· show w.heap.size + 1 ≠ ad.block; omega); (· show w.heap.size ≠ ad.block; omega))) hs1.size lR (by omega)
      (HP.out.below (HBl.out.trans (hs1.old hsw (by simp))))).mono ?_
    rintro e w4 ⟨rfl, hb4⟩
    have hs4 := hs1.below hb4
    refine ⟨_, rfl, ?_⟩
    refine zg4 rfl (hs4.row 0 rfl) _ rfl rfl rfl (by kernel_rfl) (fun i hi => ⟨_, ztf _ i hi, rfl⟩) ?_
    have hs5 := hs4.setRow 0 rfl _ rfl (fun i => wv (Hs P (k + 1) i)) (fun i hi => ztf (comp (Hs P k) (blk P k)) i hi)
    have HS5 := Hd hs5
    clear hs hs1 hb hs4 hs5 hb4
    simp only [seqWp]
    obtain ⟨A2, hcut0, hcut2⟩ := zl0 (P := Tryd.prog) Ty39 (by kernel_rfl) Ak rem ck 64 h64 hck
    have hcut : ∀ w : World, (Instr.sliceAt 39 (.slice Ak rem ck) (some (.int .i64 64)) none none).run Tryd.prog w = .ok (.slice A2 (rem - 64) (ck - 64)) w := hcut0
    clear hcut0
    have HCt := Hd hcut2
    clear hcut2
    go_wp2_with fail
    go_roundw
    case rel => exact ⟨k + 1, rem - 64, A2, ck - 64, rfl, by omega, by omega, (HCt.out.rd HRd.out).congr (fun i _ => congrArg (fun k => Value.int .u8 ((P k : Nat) : Int)) (show 64 * k + (64 + i) = 64 * (k + 1) + i by omega)), HCt.out.hi HAp.out, HS5.out⟩
    case measure => show rem - 64 < rem; omega
  ·obtain rfl : rem = 0 := by omega
   obtain rfl : k = N := by omega
   clear hg1 HC HRd HAp
   obtain ⟨wo, rfl⟩ : ∃ wo : World, wo = wr := ⟨_, rfl⟩
   go_wp2_with fail
   have H6 := Hd (HSr.out.allocB _ _ 24 32 (u8v fun _ => 0) (by rfl) (zbg 32 (.int .u8 0)) rfl)
   have hw6 : w.heap.size + 2 ≤ wo.heap.size := by have := HSr.out.lt 0 rfl; omega
   go_loopw [6] (fun i wq => ∃ j : Nat, j ≤ 32 ∧ i = .int .i64 j ∧ HS w3 wq [⟨wo.heap.size, 24, 32, u8v fun i => if i < j then rootOf (Hs P k) i else 0⟩, ⟨w.heap.size + 1, 113, 8, fun i => wv (Hs P k i)⟩, ⟨w.heap.size, 24, 32, fun _ => .int .u8 0⟩]) (fun i _ => 32 - (intOf i).toNat)
   case atStart => exact ⟨0, by omega, rfl, H6.out⟩
   case round =>
    clear H6
    obtain ⟨j, hj, rfl, hs⟩ := hrel
    by_cases hj32 : j < 32
    ·have ch := hs.cell 1 (j / 4) rfl (by show j / 4 < 8; omega)
     have co := hs.cell 0 j rfl hj32
     have fo := hs.frozen 0 j rfl
     have HSq := Hd hs
     clear hs
     go_wp2_with fail
     go_roundw
     case rel =>
      refine ⟨j + 1, by omega, by go_num, ?_⟩
      rw [zp0]
      refine (HSq.out.set 0 j rfl _).congr 0 rfl (fun i _ => ?_)
      by_cases e : i = j
      ·subst e; rw [if_pos rfl]; simp only [u8v]; rw [if_pos (by omega)]
      ·rw [if_neg e]; simp only [u8v]
       by_cases e2 : i < j
       ·rw [if_pos e2, if_pos (by omega)]
       ·rw [if_neg e2, if_neg (by omega)]
     case measure => simp [intOf]; omega
    ·obtain rfl : j = 32 := by omega
     have HX := Hd (zex (hs.row 0 rfl))
     have HR := Hd (hs.row 2 rfl)
     have HSq := Hd hs
     clear hs
     go_wp2_with (first
      | (refine wpList_load_row rfl 24 (.tmp 5) rfl wo.heap.size rfl 24 _ _ _ HX.out Ty24 rfl s24 ?_)
      | (refine zcb rfl 24 (.tmp 2) (.tmp 36) rfl HR.out _ rfl rfl (zam _ _) (by kernel_rfl) (fun i hi => ⟨_, zaq _ _ i hi, rfl⟩) ?_))
     have hend := HSq.out.setRow 2 rfl (arr 32 (u8v fun i => if i < 32 then rootOf (Hs P k) i else 0)) (zam _ _) _ (fun i hi => zaq _ _ i hi)
     refine za5 rfl (hend.row 2 rfl) _ rfl Ty24 rfl s24 rfl ?_
     refine ⟨?_, HBl.out.trans (hend.old hsw (by simp; omega))⟩
     rw [zca (g := u8v (rootOf (Hs P k))) (fun i hi => by simp only [u8v]; rw [if_pos hi])]

theorem zom (vs : Array Value) (w : World) : (callFunc 102 vs).run Tryd.prog w = .ok (.enter 102 vs) w := by kernel_rfl
theorem zon (w : World) : (Instr.buildSlice 39 0 #[]).run Tryd.prog w = .ok (.slice (some ⟨w.heap.size, 0, none⟩) 0 0) (w.alloc (.cells #[] 5)) := by simp [go_sem]
theorem zxd (x y : Nat → Nat) (n : Nat) : ∀ i, i < n → catF 32 (u8v x) (u8v y) i = u8v (catN 32 x y) i := fun i _ => by
 simp only [catF, u8v, catN]; split <;> rfl

theorem zfs (x y : Nat → Nat) (hx : ∀ i, x i < 256) (hy : ∀ i, y i < 256) (w : World) (hp : RefPkg w) :
 Calls Tryd.prog 91 #[rootV x, rootV y] w fun e w' => e = .returned (rootV (shaB (catN 32 x y) 64)) ∧ Below w.heap.size w w' := by
 have HP := Hd hp
 have HX := Hd hx
 have HY := Hd hy
 clear hp hx hy
 go_enter Tryd.func91, Tryd.ntmps91
 go_wp2
 refine HS.go (w0 := w) (rows := [⟨w.heap.size + 2, 24, 32, u8v fun _ => 0⟩, ⟨w.heap.size + 1, 24, 32, u8v y⟩, ⟨w.heap.size, 24, 32, u8v x⟩])
   (by exact (((HS.nil w).allocB _ (arr 32 (u8v x)) 24 32 _ (zam _ _) (zaq _ _) rfl).allocB _ (arr 32 (u8v y)) 24 32 _ (zam _ _) (zaq _ _) (by simp)).allocB _ _ 24 32 _ (by rfl) (zbg 32 (.int .u8 0)) (by simp)) (fun wr hs => ?_)
 have hw : w.heap.size + 2 < wr.heap.size := hs.lt 0 rfl
 have R2 : wr.rowIs w.heap.size 24 32 (u8v x) := hs.row 2 rfl
 refine zao (l := [_, _, _, _]) (tl := [_, _]) (B := wr.heap.size) (w0 := wr) [SF.own0 wr.heap.size 5, sI (.slice (some ⟨w.heap.size, 0, none⟩) (32) (32)), SF.own wr.heap.size 5 32 (u8v x), sI (.slice (some ⟨w.heap.size + 1, 0, none⟩) (32) (32))] (by kernel_rfl) (by kernel_rfl) rfl lR (Below.refl _ _) ⟨?_, ?_, ?_, ?_, trivial⟩ ?_
 ·exact zrp rfl rfl zon _ lR
 ·exact zbe rfl rfl (oT rfl) (OpKo.no) (OpKo.no) (fun w => zbp Ty24 1 (by kernel_rfl) none none (0) (32) (.inl ⟨rfl, rfl⟩) (.inl ⟨rfl, rfl⟩) (by omega) (by omega) (by omega) (by omega) (by omega) (by omega))
 ·exact zpo (s := 5) (x := 6) wr.heap.size zdx Ty39 rfl rfl rfl (by rfl) (by rfl) (fun w' hb => Rd.of_row (zaj (B := wr.heap.size) R2 hb (by omega)) lR (Nat.lt_succ_self _)) (fun _ _ => rfl) (by omega) lR
 ·exact zbe rfl rfl (oT rfl) (OpKo.no) (OpKo.no) (fun w => zbp Ty24 1 (by kernel_rfl) none none (0) (32) (.inl ⟨rfl, rfl⟩) (.inl ⟨rfl, rfl⟩) (by omega) (by omega) (by omega) (by omega) (by omega) (by omega))
 ·intro w' hb
  simp only [fin, sI, SF.own, SF.own0, forall_eq]
  rintro _ ⟨_, rfl, _⟩ _ ⟨A7, c7, rfl, ho7⟩
  simp only [pcX]
  have hs1 := hs.below hb
  have hlo : ∀ ad, A7 = some ad → wr.heap.size ≤ ad.block := fun ad e => (ho7.base_le ad e).1
  refine zph w' (.tmp 7) (.tmp 8) 39 rfl wr.heap.size 5 _ _ 1 Ty39 (info_parts zdx).choose_spec.1 (info_parts zdx).choose_spec.2.1 (info_parts zdx).choose_spec.2.2.1 (info_parts zdx).choose_spec.2.2.2 rfl rfl rfl ho7 (Rd.of_row (hs1.row 1 rfl) lR (hs1.lt 1 rfl)) (fun _ _ => rfl) (by omega) hb.size ?_
  intro A9 c9 w4 ho9 hg9 ha9
  have hb4 : Below wr.heap.size w' w4 := za4 (Below.refl _ _) hg9 hb.size hlo
  have hs4 : HS w w4 _ := hs.below (hb.trans hb4)
  refine zdm zom #[.slice A9 64 c9] rfl rfl ?_
  refine (zol 64 c9 A9 (catN 32 x y) w4 (ho9.rd.congr (zxd x y 64)) (zbo HX.out HY.out) (by omega) (HP.out.below (hs4.out (by simp)))).mono ?_
  rintro e w5 ⟨rfl, hb5⟩
  have hs5 := hs4.below hb5
  refine ⟨_, rfl, ?_⟩
  refine zg4 rfl (hs5.row 0 rfl) _ rfl rfl (zam _ _) (by kernel_rfl) (fun i hi => ⟨_, zaq _ _ i hi, rfl⟩) ?_
  have hend := hs5.setRow 0 rfl (arr 32 (u8v (shaB (catN 32 x y) 64))) (zam _ _) _ (fun i hi => zaq _ _ i hi)
  have HE := Hd hend
  clear hs hs1 hs4 hs5 hend hb hb4 hb5 ho7 ho9 hg9 ha9 hlo R2 hw
  simp only [seqWp]
  go_wp2_with fail
  exact za5 rfl (HE.out.row 0 rfl) _ rfl Ty24 rfl s24 rfl ⟨rfl, HE.out.out (by simp)⟩
theorem Rd.cells {w : World} {B n : Nat} {ad : Addr} {f : Nat → Value} (h : Rd w B (some ad) n f) {i : Nat} (hi : i < n) : w.cell? (ad.add i) = some (f i) := by
 obtain ⟨ad', e, _, hc⟩ := h (by omega)
 injection e with e; subst e
 exact hc i hi
namespace SignGood
end SignGood
def dep (l : Nat) : Nat := if l ≤ 1 then 0 else Nat.log2 (l - 1) + 1
theorem zb5 (l : Nat) : l ≤ 2 ^ dep l := by
 unfold dep
 by_cases h : l ≤ 1
 ·rw [if_pos h]; simpa using h
 ·rw [if_neg h]
  have := Nat.lt_log2_self (n := l - 1)
  omega
theorem zl5 {l e : Nat} (h : e < dep l) : 2 ^ e < l := by
 unfold dep at h
 by_cases h1 : l ≤ 1
 ·rw [if_pos h1] at h; omega
 ·rw [if_neg h1] at h
  have h2 := Nat.log2_self_le (n := l - 1) (by omega)
  have h3 : 2 ^ e ≤ 2 ^ Nat.log2 (l - 1) := Nat.pow_le_pow_right (by omega) (by omega)
  omega
theorem zd4 {l k : Nat} (h : l ≤ 2 ^ k) : dep l ≤ k := by
 rcases Nat.lt_or_ge k (dep l) with h1 | h1
 ·have := zl5 h1; omega
 ·exact h1
def zrN : Nat → Nat → Nat
  | 0 => fun _ => 0
  | k + 1 => shaB (catN 32 (zrN k) (zrN k)) 64
theorem zfg (k : Nat) : ∀ i, zrN k i < 256 := by
 cases k with
 | zero => intro i; show 0 < 256; omega
 | succ k => exact fun i => zfx _ _ i
def zrL : Nat → Nat := fun i => zrN (i / 32) (i % 32)
theorem zed (k q : Nat) (hq : q < 32) : zrL (k * 32 + q) = zrN k q := by
 unfold zrL
 rw [show (k * 32 + q) / 32 = k by omega, show (k * 32 + q) % 32 = q by omega]
namespace TreeRef
theorem shl1 (d : Nat) (hd : d < 63) (w : World) : (binOp .shl 3 (.int .i64 1) (.int .u64 (d : Int))).run Tryd.prog w = .ok (.int .i64 ((2 ^ d : Nat) : Int)) w := by
 have h1 : 2 ^ d ≤ 2 ^ 62 := Nat.pow_le_pow_right (by omega) (by omega)
 have h2 : ((2 ^ d : Nat) : Int) ≤ 4611686018427387904 := by have : (2 : Nat) ^ 62 = 4611686018427387904 := by decide
                                                             omega
 have h0 : (0 : Int) ≤ ((2 ^ d : Nat) : Int) := Int.natCast_nonneg _
 have e : ((2 ^ d : Nat) : Int) = (2 : Int) ^ d := by simp
 rw [e] at h2 h0
 simp [go_sem, IntKind.wrap, IntKind.bits, IntKind.signed]
 generalize (2 : Int) ^ d = y at h2 h0
 rw [Int.emod_eq_of_lt h0 (by omega), if_neg (by omega)]
theorem cvu (m : Nat) (hm : m < 9223372036854775808) (w : World) : (convert 3 133 (.int .i64 (m:Int))).run Tryd.prog w = .ok (.int .u64 (m:Int)) w := by
 simp [go_sem, IntKind.wrap, IntKind.bits, IntKind.signed]; omega
end TreeRef
theorem za1 {P : Program} {o : Oper} {a : Act} {b : BinOp} {ty rt : TypeId} {x y : Operand} {u v r : Value} (hne : (b matches .eql | .neq) = false) (ho : o.op = .binOp b ty x y rt) (hx : a.eval x = u) (hy : a.eval y = v) (hr : ∀ w, (binOp b ty u v).run P w = .ok r w) : ∀ w, (execOp a.eval o).run P w = .ok (.value r) w := fun w => by
 unfold execOp
 rw [ho]
 simp only [hx, hy]
 cases b <;> simp at hne <;> simp [eqGuard, hr]
theorem zdc {P : Program} {o : Oper} {a : Act} {s d : TypeId} {x : Operand} {u r : Value} (ho : o.op = .convert s d x) (hx : a.eval x = u) (hr : ∀ w, (convert s d u).run P w = .ok r w) : ∀ w, (execOp a.eval o).run P w = .ok (.value r) w := fun w => by
 unfold execOp
 rw [ho]
 simp only [hx]
 simp [hr w]
open TreeRef in
theorem zp2 (l : Nat) (hl : l ≤ 1099511627776) (w : World) : Calls Tryd.prog 100 #[.int .i64 (l : Int)] w fun e w' => e = .returned (.int .i64 (dep l : Int)) ∧ w' = w := by
 have hd40 : dep l ≤ 40 := zd4 (k := 40) (by omega)
 go_enter Tryd.func100, Tryd.ntmps100
 go_wp2_with fail
 go_loopw [3] (fun i wr => ∃ d : Nat, i = .int .i64 (d : Int) ∧ d ≤ dep l ∧ wr = w) (fun i _ => 41 - (intOf i).toNat)
 case atStart => exact ⟨0, rfl, by omega, rfl⟩
 case round =>
  obtain ⟨d, rfl, hd, rfl⟩ := hrel
  obtain ⟨p, hp⟩ : ∃ p, p = 2 ^ d := ⟨_, rfl⟩
  have HP := Hd hp
  by_cases hlt : d < dep l
  ·have hpl : p < l := by rw [hp]; exact zl5 hlt
   clear hp
   go_wp2_with (refine zab rfl 6 rfl (.int .i64 (p : Int)) ?_ ?_; (· rw [HP.out]; exact za1 rfl rfl rfl rfl (fun w => shl1 d (by omega) w) _))
   go_roundw
   case rel => exact ⟨d + 1, by go_num, by omega, trivial⟩
   case measure => simp [intOf]; omega
  ·obtain rfl : d = dep l := by omega
   have hpl : l ≤ p := by rw [hp]; exact zb5 l
   clear hp
   go_wp2_with (refine zab rfl 6 rfl (.int .i64 (p : Int)) ?_ ?_; (· rw [HP.out]; exact za1 rfl rfl rfl rfl (fun w => shl1 _ (by omega) w) _))
   go_ret
   exact ⟨rfl, rfl⟩
end Go.Proofs.YtomilckcgmhfcaaDoor
