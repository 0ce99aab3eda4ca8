/- Rows of the call's own that grow: append of whatever reads as a function of its index. -/
import Derived.Test.YtecgogeebponlaaDoorLib
import Derived.Maps.AppendAt
import Derived.Deep.AppendLies
namespace Go.Proofs.YtecgogeebponlaaDoor
set_option maxRecDepth 40000
open Go.RowKit

/-- The slice '.slice A n c' is the call's own, and reads as f. -/
def Own (w : World) (base : Nat) (e : TypeId) (A : Option Addr) (n c : Nat) (f : Nat → Value) : Prop := w.ownsRow base e 1 (.slice A n c) n ((List.range n).map f)

section
variable {w w' : World} {base n c : Nat} {e : TypeId} {A : Option Addr} {f f' : Nat → Value}
theorem Own.nil (w : World) (base : Nat) (e : TypeId) (f : Nat → Value) : Own w base e none 0 0 f := World.ownsRow_nil w base e 1
theorem Own.congr (h : Own w base e A n c f) (k : ∀ i, i < n → f i = f' i) : Own w base e A n c f' := by
  unfold Own at *
  rwa [← List.map_congr_left (fun i hi => k i (List.mem_range.1 hi))]
theorem Own.rd (h : Own w base e A n c f) : Rd w w.heap.size A n f := fun hn => by
  obtain ⟨g, cap, hv, hb, hlt⟩ := World.ownsRow.form h hn
  have hA : A = some ⟨g, 0, none⟩ := by injection hv
  subst hA
  refine ⟨_, rfl, hlt, fun i hi => ?_⟩
  exact World.ownsRow.cells h (g := g) rfl i (f i) (by simp [hi])
theorem Own.base_le (h : Own w base e A n c f) : ∀ ad, A = some ad → base ≤ ad.block ∧ ad.block < w.heap.size := by
  rintro ad rfl
  exact World.ownsRow.lt h _ rfl
theorem Own.cap (h : Own w base e A n c f) : n ≤ c := by
  rcases h.2 with ⟨hv, _⟩ | ⟨g, cap, cur, hv, _, _, hnc, _⟩
  · injection hv with _ h1 h2; omega
  · injection hv with _ h1 h2; omega
theorem Own.drewN (h : Own w base e A n c f) (k : Nat) : Own (w.drewN k) base e A n c f := h
theorem Own.alloc (h : Own w base e A n c f) (o : Obj) : Own (w.alloc o) base e A n c f := World.ownsRow.alloc h o
theorem Own.kept {row : Option Nat} (h : Own w base e A n c f) (hg : w.grownBy w' row) (hne : ∀ ad, A = some ad → some ad.block ≠ row) : Own w' base e A n c f := by
  refine World.ownsRow.kept h hg ?_
  cases A with
  | none => exact .inl rfl
  | some ad => exact .inr (hne ad rfl)
theorem Own.below {B : Nat} (h : Own w base e A n c f) (hb : Below B w w') (hB : ∀ ad, A = some ad → ad.block < B) : Own w' base e A n c f := by
  obtain ⟨h1, h2⟩ := h
  refine ⟨h1, ?_⟩
  rcases h2 with h2 | ⟨g, cap, cur, hv, hg, hh, r⟩
  · exact .inl h2
  · refine .inr ⟨g, cap, cur, hv, hg, ?_, r⟩
    have hA : A = some ⟨g, 0, none⟩ := by injection hv
    rw [hb.block g (hB _ hA)]
    exact hh
/-- An empty composite, or a make of length 0: a new block of no cells. -/
theorem Own.new0 (w : World) (base : Nat) (e : TypeId) (f : Nat → Value) (hb : base ≤ w.heap.size) : Own (w.alloc (.cells #[] e)) base e (some ⟨w.heap.size, 0, none⟩) 0 0 f :=
  ⟨rfl, .inr ⟨w.heap.size, 0, #[], rfl, hb, heap_alloc_new w _, Nat.le_refl _, Nat.zero_le _, rfl, rfl⟩⟩
theorem Own.of_row {g m : Nat} (h : w.rowIs g e m f) (hb : base ≤ g) (hm : m ≤ maxLen) : Own w base e (some ⟨g, 0, none⟩) m m f := by
  obtain ⟨cs, hh, hs, hc⟩ := h
  refine ⟨by simp, .inr ⟨g, m, cs, rfl, hb, hh, Nat.le_refl _, hm, by omega, ?_⟩⟩
  apply List.ext_getElem?
  intro i
  by_cases hi : i < m
  · simp [hi, hc i hi]
  · simp [List.getElem?_take, hi]
end

/-- f, and behind its first n g. -/
def catF (n : Nat) (f g : Nat → Value) : Nat → Value := fun i => if i < n then f i else g (i - n)
theorem catF_map (n m : Nat) (f g : Nat → Value) : (List.range n).map f ++ (List.range m).map g = (List.range (n + m)).map (catF n f g) := by
  rw [List.range_add, List.map_append]
  congr 1
  · exact List.map_congr_left (fun i hi => by simp [catF, List.mem_range.1 hi])
  · rw [List.map_map]; exact List.map_congr_left (fun i _ => by simp [catF, show ¬ n + i < n by omega])

section
variable {P : Program} (w : World)
theorem run_app (base : Nat) (t ty e : TypeId) (i : TypeInfo) (z : Value) (bytes : Nat) (ht : P.underlying t = some (.slice e)) (hi : P.info? e = some i) (hz : i.zero = some z)
    (hsize : i.size = 1) (hby : i.bytes = bytes) (hzs : z.cells.size = 1)
    {A C : Option Addr} {n c m cm B : Nat} {f g : Nat → Value} (hown : Own w base e A n c f) (hr : Rd w B C m g) (h1 : ∀ i, i < m → (g i).oneCell' = true)
    (hbytes : n + m ≤ 9223372036854775807 ∧ (n + m) * bytes ≤ 140737488355328) (hbase : base ≤ w.heap.size) :
    ∃ A' c' w', (Builtin.append_ #[t, t] ty #[.slice A n c, .slice C m cm]).run P w = .ok (.slice A' (n + m) c') w' ∧ Own w' base e A' (n + m) c' (catF n f g) ∧
      w.grownBy w' (A.map (·.block)) ∧ (∀ ad, A' = some ad → some ad.block = A.map (·.block) ∨ ad.block = w.heap.size) := by
  have hshape : ∀ v', World.ownsRow w base e 1 v' (n + m) ((List.range (n + m)).map (catF n f g)) → True := fun _ _ => trivial
  clear hshape
  rcases C with _ | ad
  · have hm : m = 0 := by
      rcases Nat.eq_zero_or_pos m with h0 | h0
      · exact h0
      · obtain ⟨ad, h, _⟩ := hr h0
        cases h
    subst hm
    refine ⟨A, c, w, ?_, hown.congr (fun i hi => by simp [catF, show i < n by omega]), World.grownBy.refl w _, fun ad h => .inl (by rw [h]; rfl)⟩
    rcases hown.2 with ⟨hv, h0⟩ | ⟨g', cap, cur, hv, _, _, hnc, _⟩
    · injection hv with h1 h2 h3; subst h1 h2 h3
      simp [Builtin.append_, run_underlying ht, sizeOf, typeInfo, hi, Builtin.lenOf, Builtin.firstCells]
    · injection hv with h1 h2 h3; subst h1 h3
      simp [Builtin.append_, run_underlying ht, sizeOf, typeInfo, hi, Builtin.lenOf, Builtin.firstCells, hnc, storeCells]
  · have hcells : ∀ j u, ((List.range m).map g)[j]? = some u → w.cell? (ad.add j) = some u := by
      intro j u hu
      have hj : j < m := by
        rcases Nat.lt_or_ge j m with h | h
        · exact h
        · simp [h] at hu
      obtain ⟨ad', h, _, hc⟩ := hr (by omega)
      injection h with h; subst h
      rw [hc j hj]
      simpa [hj] using hu
    obtain ⟨v', w', hrun, h2, h3, _, h5⟩ := run_append_own_at (P := P) w base t ty e i z 1 bytes ht hi hz hsize hby hzs (by omega) (.slice A n c) n _ hown ad m cm ((List.range m).map g) (by simp) hcells
      (fun u hu => by obtain ⟨j, hj, rfl⟩ := List.mem_map.1 hu; exact h1 j (List.mem_range.1 hj)) (by unfold maxLen; omega) hbytes.2 hbase
    rw [catF_map] at h2
    have hv : ∃ A' c', v' = .slice A' (n + m) c' := by
      rcases h2.2 with ⟨h, h0⟩ | ⟨g', cap, cur, h, _⟩
      · exact ⟨none, 0, by rw [h, h0]⟩
      · exact ⟨_, _, h⟩
    obtain ⟨A', c', rfl⟩ := hv
    have hb : Value.ownBlock (.slice A n c) = A.map (·.block) := by cases A <;> rfl
    rw [hb] at h3 h5
    refine ⟨A', c', w', hrun, h2, h3, ?_⟩
    rintro ad' rfl
    rcases h5 with h5 | h5
    · exact .inl h5
    · exact .inr (by simpa [Value.ownBlock] using h5)

theorem wp_app {o : Oper} {a : Act} {K : Act → World → Prop} {Q : Exit → Act → World → Prop} (s x : Operand) (t : TypeId)
    (ho : o.op = .call { callee := .builtin .append, args := #[s, x], argTypes := #[t, t] })
    (base : Nat) (e : TypeId) (i : TypeInfo) (z : Value) (bytes : Nat) (ht : P.underlying t = some (.slice e)) (hi : P.info? e = some i) (hz : i.zero = some z)
    (hsize : i.size = 1) (hby : i.bytes = bytes) (hzs : z.cells.size = 1)
    {A C : Option Addr} {n c m cm B : Nat} {f g : Nat → Value} (hs : a.eval s = .slice A n c) (hx : a.eval x = .slice C m cm) (hown : Own w base e A n c f) (hr : Rd w B C m g) (h1 : ∀ i, i < m → (g i).oneCell' = true)
    (hbytes : n + m ≤ 9223372036854775807 ∧ (n + m) * bytes ≤ 140737488355328) (hbase : base ≤ w.heap.size)
    (h : ∀ A' c' w', Own w' base e A' (n + m) c' (catF n f g) → w.grownBy w' (A.map (·.block)) → (∀ ad, A' = some ad → some ad.block = A.map (·.block) ∨ ad.block = w.heap.size) → K (a.put o.dst (.slice A' (n + m) c')) w') : o.wp P a w K Q := by
  obtain ⟨A', c', w', hrun, h2, h3, h4⟩ := run_app (P := P) w base t o.type e i z bytes ht hi hz hsize hby hzs (cm := cm) hown hr h1 hbytes hbase
  unfold Oper.wp execOp
  simp only [ho, resolve, invoke, builtin, Sem.run_bind, Sem.run_pure, Result.andThen_ok, List.map_toArray, List.map_cons, List.map_nil, hs, hx, hrun]
  exact h A' c' w' h2 h3 h4

/-- append, in a list of operations that don't draw: the new length N and what it reads as, F, as the caller spells them. -/
theorem wpList_app {ops : Array Oper} {rest : List Oper} {o : Oper} {a : Act} {Q : Exit → Act → World → Prop} (s x : Operand) (t base : Nat) {e : TypeId} {z : Value} {bytes : Nat}
    (hinfo : (P.info? e).map (fun i => (i.zero, i.size, i.bytes)) = some (some z, 1, bytes)) (ht : P.underlying t = some (.slice e)) (hzs : z.cells.size = 1)
    (hgd : o.guard = none) (ho : o.op = .call { callee := .builtin .append, args := #[s, x], argTypes := #[t, t] })
    (N : Nat) (F : Nat → Value)
    {A C : Option Addr} {n c m cm B : Nat} {f g : Nat → Value} (hs : a.eval s = .slice A n c) (hx : a.eval x = .slice C m cm) (hown : Own w base e A n c f) (hr : Rd w B C m g) (h1 : ∀ i, i < m → (g i).oneCell' = true)
    (hN : N = n + m) (hF : ∀ i, i < N → catF n f g i = F i)
    (hbytes : N ≤ 9223372036854775807 ∧ N * bytes ≤ 140737488355328) (hbase : base ≤ w.heap.size)
    (h : ∀ A' c' w', Own w' base e A' N c' F → w.grownBy w' (A.map (·.block)) → (∀ ad, A' = some ad → some ad.block = A.map (·.block) ∨ ad.block = w.heap.size) → wpList P ops Q rest (a.put o.dst (.slice A' N c')) w') :
    wpList P ops Q (o :: rest) a w := by
  obtain ⟨i, hi, hz, hsize, hby⟩ := info_parts hinfo
  subst hN
  exact wpList_plain hgd fun _ hK => wp_app w s x t ho base e i z bytes ht hi hz hsize hby hzs hs hx hown hr h1 hbytes hbase fun A' c' w' h2 h3 h4 => hK _ _ (h A' c' w' (h2.congr hF) h3 h4)
end

/-- Behind an append the old memory is as it was. -/
theorem below_app {B : Nat} {a w w' : World} {A : Option Addr} (h : Below B a w) (hg : w.grownBy w' (A.map (·.block))) (hB : B ≤ w.heap.size) (hA : ∀ ad, A = some ad → B ≤ ad.block) : Below B a w' :=
  h.grown hg hB fun k hk => by
    cases A with
    | none => cases hk
    | some ad => injection hk with hk; subst hk; exact hA ad rfl
/-- A new block of one cell, as a slice. -/
theorem Rd.one (w : World) (x : Value) (t : TypeId) : Rd (w.alloc (.cells #[x] t)) (w.heap.size + 1) (some ⟨w.heap.size, 0, none⟩) 1 (fun _ => x) := fun _ =>
  ⟨_, rfl, Nat.lt_succ_self _, fun i hi => by
    obtain rfl : i = 0 := by omega
    exact cell_one_new w x t 0 x rfl⟩
/-- A new block of cells that are written out, as a slice. -/
theorem Rd.lit (w : World) (cs : Array Value) (t : TypeId) (n : Nat) (f : Nat → Value) (h : ∀ i, i < n → cs[i]? = some (f i)) : Rd (w.alloc (.cells cs t)) (w.heap.size + 1) (some ⟨w.heap.size, 0, none⟩) n f := fun _ =>
  ⟨_, rfl, Nat.lt_succ_self _, fun i hi => by rw [add_lit0, World.cell?_alloc_at _ _ _ _ rfl, h i hi]⟩
end Go.Proofs.YtecgogeebponlaaDoor
