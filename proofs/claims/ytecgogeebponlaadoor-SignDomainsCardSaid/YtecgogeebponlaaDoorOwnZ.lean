/- Rows of the call's own whose elements have z cells each: append of whatever reads as a function of its index. -/
import Derived.Test.YtecgogeebponlaaDoorStep
import Derived.Test.YtecgogeebponlaaDoorOwn
namespace Go.Proofs.YtecgogeebponlaaDoor
set_option maxRecDepth 40000
open Go.RowKit
/-- The slice '.slice A n c' of elements of z cells is the call's own, and its cells read as f. -/
def OwnZ (w : World) (base : Nat) (e : TypeId) (z : Nat) (A : Option Addr) (n c : Nat) (f : Nat → Value) : Prop := w.ownsRow base e z (.slice A n c) n ((List.range (n * z)).map f)
section
variable {w w' : World} {base z n c : Nat} {e : TypeId} {A : Option Addr} {f f' : Nat → Value}
theorem OwnZ.nil (w : World) (base : Nat) (e : TypeId) (z : Nat) (f : Nat → Value) : OwnZ w base e z none 0 0 f := by
  have := World.ownsRow_nil w base e z
  unfold OwnZ
  simpa using this
theorem OwnZ.congr (h : OwnZ w base e z A n c f) (k : ∀ i, i < n * z → f i = f' i) : OwnZ w base e z A n c f' := by
  unfold OwnZ at *
  rwa [← List.map_congr_left (fun i hi => k i (List.mem_range.1 hi))]
theorem OwnZ.rd (h : OwnZ w base e z A n c f) : Rd w w.heap.size A (n * z) f := fun hn => by
  have hn' : 0 < n := by
    rcases Nat.eq_zero_or_pos n with h0 | h0
    · subst h0; simp at hn
    · exact h0
  obtain ⟨g, cap, hv, hb, hlt⟩ := World.ownsRow.form h hn'
  have hA : A = some ⟨g, 0, none⟩ := by injection hv
  subst hA
  refine ⟨_, rfl, hlt, fun i hi => ?_⟩
  have h2 : c = cap := by injection hv
  subst h2
  rw [add_lit0, World.ownsRow.cellAt h i hi]
  simp [hi]
theorem OwnZ.base_le (h : OwnZ w base e z A n c f) : ∀ ad, A = some ad → base ≤ ad.block ∧ ad.block < w.heap.size := by
  rintro ad rfl
  exact World.ownsRow.lt h _ rfl
theorem OwnZ.off (h : OwnZ w base e z A n c f) : ∀ ad, A = some ad → ad = ⟨ad.block, 0, none⟩ := by
  rintro ad rfl
  rcases h.2 with ⟨hv, _⟩ | ⟨g, cap, cur, hv, _⟩
  · injection hv with h1; cases h1
  · injection hv with h1; injection h1 with h1; rw [h1]
theorem OwnZ.cap (h : OwnZ w base e z A n c f) : n ≤ c := by
  rcases h.2 with ⟨hv, _⟩ | ⟨g, cap, cur, hv, _, _, hnc, _⟩
  · injection hv with _ h1 h2; omega
  · injection hv with _ h1 h2; omega
theorem OwnZ.capM (h : OwnZ w base e z A n c f) : c ≤ maxLen := by
  rcases h.2 with ⟨hv, _⟩ | ⟨g, cap, cur, hv, _, _, hnc, hm, _⟩
  · injection hv with _ h1 h2; omega
  · injection hv with _ h1 h2; omega
theorem OwnZ.kept {row : Option Nat} (h : OwnZ w base e z A n c f) (hg : w.grownBy w' row) (hne : ∀ ad, A = some ad → some ad.block ≠ row) : OwnZ w' base e z A n c f := by
  refine World.ownsRow.kept h hg ?_
  cases A with
  | none => exact .inl rfl
  | some ad => exact .inr (hne ad rfl)
theorem OwnZ.below {B : Nat} (h : OwnZ w base e z A n c f) (hb : Below B w w') (hB : ∀ ad, A = some ad → ad.block < B) : OwnZ w' base e z A n c f := by
  obtain ⟨h1, h2⟩ := h
  refine ⟨h1, ?_⟩
  rcases h2 with h2 | ⟨g, cap, cur, hv, hg, hh, r⟩
  · exact .inl h2
  · refine .inr ⟨g, cap, cur, hv, hg, ?_, r⟩
    have hA : A = some ⟨g, 0, none⟩ := by injection hv
    rw [hb.block g (hB _ hA)]
    exact hh
/-- All that lay there before stays. -/
theorem OwnZ.all (h : OwnZ w base e z A n c f) (hb : Below w.heap.size w w') : OwnZ w' base e z A n c f := h.below hb fun ad e => (h.base_le ad e).2
theorem OwnZ.mono {base' : Nat} (h : OwnZ w base e z A n c f) (hb : base' ≤ base) : OwnZ w base' e z A n c f :=
  ⟨h.1, h.2.imp id fun ⟨g, cap, cur, h1, h2, h3⟩ => ⟨g, cap, cur, h1, Nat.le_trans hb h2, h3⟩⟩
theorem OwnZ.of_row {g m : Nat} (h : w.rowIs g e (m * z) f) (hb : base ≤ g) (hm : m ≤ maxLen) : OwnZ w base e z (some ⟨g, 0, none⟩) m m f := by
  obtain ⟨cs, hh, hs, hc⟩ := h
  refine ⟨by simp, .inr ⟨g, m, cs, rfl, hb, hh, Nat.le_refl _, hm, by omega, ?_⟩⟩
  apply List.ext_getElem?
  intro i
  by_cases hi : i < m * z
  · simp [hi, hc i hi]
  · simp [List.getElem?_take, hi]
end
section
variable {P : Program} (w : World)
theorem run_appZ (base : Nat) (t ty e : TypeId) (i : TypeInfo) (z : Value) (k bytes : Nat) (ht : P.underlying t = some (.slice e)) (hi : P.info? e = some i) (hz : i.zero = some z)
    (hsize : i.size = k) (hby : i.bytes = bytes) (hzs : z.cells.size = k) (hk : 0 < k)
    {A C : Option Addr} {n c m cm B : Nat} {f g : Nat → Value} (hown : OwnZ w base e k A n c f) (hr : Rd w B C (m * k) g) (h1 : ∀ i, i < m * k → (g i).oneCell' = true)
    (hbytes : n + m ≤ 9223372036854775807 ∧ (n + m) * bytes ≤ 140737488355328) (hbase : base ≤ w.heap.size) :
    ∃ A' c' w', (Builtin.append_ #[t, t] ty #[.slice A n c, .slice C m cm]).run P w = .ok (.slice A' (n + m) c') w' ∧ OwnZ w' base e k A' (n + m) c' (catF (n * k) f g) ∧
      w.grownBy w' (A.map (·.block)) ∧ (∀ ad, A' = some ad → some ad.block = A.map (·.block) ∨ ad.block = w.heap.size) := by
  rcases C with _ | ad
  · have hm : m = 0 := by
      rcases Nat.eq_zero_or_pos m with h0 | h0
      · exact h0
      · obtain ⟨ad, h, _⟩ := hr (Nat.mul_pos h0 hk)
        cases h
    subst hm
    refine ⟨A, c, w, ?_, hown.congr (fun i hi => by simp [catF, hi]), World.grownBy.refl w _, fun ad h => .inl (by rw [h]; rfl)⟩
    rcases hown.2 with ⟨hv, h0⟩ | ⟨g', cap, cur, hv, _, _, hnc, _⟩
    · injection hv with h1 h2 h3; subst h1 h2 h3
      simp [Builtin.append_, run_underlying ht, sizeOf, typeInfo, hi, Builtin.lenOf, Builtin.firstCells]
    · injection hv with h1 h2 h3; subst h1 h3
      simp [Builtin.append_, run_underlying ht, sizeOf, typeInfo, hi, Builtin.lenOf, Builtin.firstCells, hnc, storeCells]
  · have hcells : ∀ j u, ((List.range (m * k)).map g)[j]? = some u → w.cell? (ad.add j) = some u := by
      intro j u hu
      have hj : j < m * k := by
        rcases Nat.lt_or_ge j (m * k) with h | h
        · exact h
        · simp [h] at hu
      obtain ⟨ad', h, _, hc⟩ := hr (by omega)
      injection h with h; subst h
      rw [hc j hj]
      simpa [hj] using hu
    obtain ⟨v', w', hrun, h2, h3, _, h5⟩ := run_append_own_at (P := P) w base t ty e i z k bytes ht hi hz hsize hby hzs hk (.slice A n c) n _ hown ad m cm ((List.range (m * k)).map g) (by simp) hcells
      (fun u hu => by obtain ⟨j, hj, rfl⟩ := List.mem_map.1 hu; exact h1 j (List.mem_range.1 hj)) (by unfold maxLen; omega) hbytes.2 hbase
    rw [catF_map, ← Nat.add_mul] at h2
    have hv : ∃ A' c', v' = .slice A' (n + m) c' := by
      rcases h2.2 with ⟨h, h0⟩ | ⟨g', cap, cur, h, _⟩
      · exact ⟨none, 0, by rw [h, h0]⟩
      · exact ⟨_, _, h⟩
    obtain ⟨A', c', rfl⟩ := hv
    have hb : Value.ownBlock (.slice A n c) = A.map (·.block) := by cases A <;> rfl
    rw [hb] at h3 h5
    refine ⟨A', c', w', hrun, h2, h3, ?_⟩
    rintro ad' rfl
    rcases h5 with h5 | h5
    · exact .inl h5
    · exact .inr (by simpa [Value.ownBlock] using h5)
theorem wp_appZ {o : Oper} {a : Act} {K : Act → World → Prop} {Q : Exit → Act → World → Prop} (s x : Operand) (t base : Nat) {e : TypeId} {z : Value} {k bytes : Nat}
    (hinfo : (P.info? e).map (fun i => (i.zero, i.size, i.bytes)) = some (some z, k, bytes)) (ht : P.underlying t = some (.slice e)) (hzs : z.cells.size = k) (hk : 0 < k)
    (ho : o.op = .call { callee := .builtin .append, args := #[s, x], argTypes := #[t, t] })
    (N : Nat) (F : Nat → Value)
    {A C : Option Addr} {n c m cm B : Nat} {f g : Nat → Value} (hs : a.eval s = .slice A n c) (hx : a.eval x = .slice C m cm) (hown : OwnZ w base e k A n c f) (hr : Rd w B C (m * k) g) (h1 : ∀ i, i < m * k → (g i).oneCell' = true)
    (hN : N = n + m) (hF : ∀ i, i < N * k → catF (n * k) f g i = F i)
    (hbytes : N ≤ 9223372036854775807 ∧ N * bytes ≤ 140737488355328) (hbase : base ≤ w.heap.size)
    (h : ∀ A' c' w', OwnZ w' base e k A' N c' F → w.grownBy w' (A.map (·.block)) → (∀ ad, A' = some ad → some ad.block = A.map (·.block) ∨ ad.block = w.heap.size) → K (a.put o.dst (.slice A' N c')) w') : o.wp P a w K Q := by
  have hi' : ∃ i, P.info? e = some i ∧ i.zero = some z ∧ i.size = k ∧ i.bytes = bytes := by
    cases hq : P.info? e with
    | none => rw [hq] at hinfo; simp at hinfo
    | some i => rw [hq] at hinfo; simp at hinfo; exact ⟨i, rfl, hinfo.1, hinfo.2.1, hinfo.2.2⟩
  obtain ⟨i, hi, hz, hsize, hby⟩ := hi'
  subst hN
  obtain ⟨A', c', w', hrun, h2, h3, h4⟩ := run_appZ (P := P) w base t o.type e i z k bytes ht hi hz hsize hby hzs hk (cm := cm) hown hr h1 hbytes hbase
  unfold Oper.wp execOp
  simp only [ho, resolve, invoke, builtin, Sem.run_bind, Sem.run_pure, Result.andThen_ok, List.map_toArray, List.map_cons, List.map_nil, hs, hx, hrun]
  exact h A' c' w' (h2.congr hF) h3 h4
/-- append, in a list of operations that don't draw. -/
theorem wpList_appZ {ops : Array Oper} {rest : List Oper} {o : Oper} {a : Act} {Q : Exit → Act → World → Prop} (s x : Operand) (t base : Nat) {e : TypeId} {z : Value} {k bytes : Nat}
    (hinfo : (P.info? e).map (fun i => (i.zero, i.size, i.bytes)) = some (some z, k, bytes)) (ht : P.underlying t = some (.slice e)) (hzs : z.cells.size = k) (hk : 0 < k)
    (hgd : o.guard = none) (ho : o.op = .call { callee := .builtin .append, args := #[s, x], argTypes := #[t, t] })
    (N : Nat) (F : Nat → Value)
    {A C : Option Addr} {n c m cm B : Nat} {f g : Nat → Value} (hs : a.eval s = .slice A n c) (hx : a.eval x = .slice C m cm) (hown : OwnZ w base e k A n c f) (hr : Rd w B C (m * k) g) (h1 : ∀ i, i < m * k → (g i).oneCell' = true)
    (hN : N = n + m) (hF : ∀ i, i < N * k → catF (n * k) f g i = F i)
    (hbytes : N ≤ 9223372036854775807 ∧ N * bytes ≤ 140737488355328) (hbase : base ≤ w.heap.size)
    (h : ∀ A' c' w', OwnZ w' base e k A' N c' F → w.grownBy w' (A.map (·.block)) → (∀ ad, A' = some ad → some ad.block = A.map (·.block) ∨ ad.block = w.heap.size) → wpList P ops Q rest (a.put o.dst (.slice A' N c')) w') :
    wpList P ops Q (o :: rest) a w :=
  wpList_plain hgd fun _ hK => wp_appZ w s x t base hinfo ht hzs hk ho N F hs hx hown hr h1 hN hF hbytes hbase fun A' c' w' h2 h3 h4 => hK _ _ (h A' c' w' h2 h3 h4)
end
end Go.Proofs.YtecgogeebponlaaDoor
