/- A part of what the proofs stand on: Lib, Own. -/
import Derived.Test.YtlcpflaofggmeaaDoorGTre1
import Derived.Test.YtlcpflaofggmeaaDoorRows
import Derived.WalkKit
import Derived.WalkSpells
import Derived.WalkLawsBesides
import Derived.BigQuiet
import Derived.Deep.OwnRows
import Derived.Deep.RegionWith
import Derived.Deep.Draws
import Derived.Deep.Grids
import Derived.Deep.DeepFit
import Derived.Lib.Hide
import Derived.Maps.AppendAt
import Derived.Deep.AppendLies
/- Words for memory: a slice that reads as a function of its index, kept over all that the call does to newer blocks. -/
namespace Go.Proofs.YtlcpflaofggmeaaDoor
set_option maxRecDepth 40000
open Go.RowKit

theorem block_of_add (a : Addr) (n : Nat) : (a.add n).block = a.block := by unfold Addr.add; split <;> rfl
theorem add_of_add (a : Addr) (i j : Nat) : (a.add i).add j = a.add (i + j) := by
  unfold Addr.add
  by_cases hi : i = 0 <;> by_cases hj : j = 0 <;> simp [hi, hj, Nat.add_assoc]
theorem add_lit0 (g n : Nat) : (⟨g, 0, none⟩ : Addr).add n = ⟨g, n, none⟩ := by
  unfold Addr.add; split <;> simp_all

/-- The slice '.slice A n _' reads as f, and lies below block B. -/
def Rd (w : World) (B : Nat) (A : Option Addr) (n : Nat) (f : Nat → Value) : Prop :=
  0 < n → ∃ ad, A = some ad ∧ ad.block < B ∧ ∀ i, i < n → w.cell? (ad.add i) = some (f i)

section
variable {w w' : World} {B B' n : Nat} {A : Option Addr} {f f' : Nat → Value}
theorem Rd.none_ : Rd w B A 0 f := fun h => absurd h (by omega)
theorem Rd.at_ {k : Nat} (h : Rd w B A n f) (hk : k < n) : ∃ ad, A = some ad ∧ ad.block < B ∧ w.cell? (ad.add k) = some (f k) := by
  obtain ⟨ad, e, hb, hc⟩ := h (by omega)
  exact ⟨ad, e, hb, hc k hk⟩
theorem Rd.cell_ {ad : Addr} {k : Nat} (h : Rd w B (some ad) n f) (hk : k < n) : w.cell? (ad.add k) = some (f k) := by
  obtain ⟨ad', e, hb, hc⟩ := h (by omega)
  injection e with e
  subst e
  exact hc k hk
theorem Rd.keep (h : Rd w B A n f) (hk : ∀ p : Addr, p.block < B → w'.cell? p = w.cell? p) : Rd w' B A n f := fun hn => by
  obtain ⟨ad, e, hb, hc⟩ := h hn
  exact ⟨ad, e, hb, fun i hi => (hk _ (by rw [block_of_add]; exact hb)).trans (hc i hi)⟩
theorem Rd.more (h : Rd w B A n f) (hB : B ≤ B') : Rd w B' A n f := fun hn => by
  obtain ⟨ad, e, hb, hc⟩ := h hn
  exact ⟨ad, e, by omega, hc⟩
theorem Rd.congr (h : Rd w B A n f) (e : ∀ i, i < n → f i = f' i) : Rd w B A n f' := fun hn => by
  obtain ⟨ad, ea, hb, hc⟩ := h hn
  exact ⟨ad, ea, hb, fun i hi => (hc i hi).trans (by rw [e i hi])⟩
theorem Rd.short {k : Nat} (h : Rd w B A n f) (hk : k ≤ n) : Rd w B A k f := fun hn => by
  obtain ⟨ad, ea, hb, hc⟩ := h (by omega)
  exact ⟨ad, ea, hb, fun i hi => hc i (by omega)⟩
theorem Rd.below (h : Rd w B A n f) (hb : Below B w w') : Rd w' B A n f := h.keep fun _ hp => hb.cell hp
theorem Rd.drew (h : Rd w B A n f) : Rd w.drew B A n f := h
theorem Rd.drewN (h : Rd w B A n f) (k : Nat) : Rd (w.drewN k) B A n f := h
theorem Rd.alloc (h : Rd w B A n f) (hB : B ≤ w.heap.size) (o : Obj) : Rd (w.alloc o) B A n f := h.keep fun p hp => World.cell?_alloc_lt w o p (by omega)
theorem Rd.setCell (h : Rd w B A n f) {p : Addr} (hB : B ≤ p.block) (u : Value) : Rd (w.setCell p u) B A n f :=
  h.keep fun q hq => World.cell?_setCell_other w p q u (fun e => by subst e; omega)
theorem Rd.grown (h : Rd w B A n f) {row : Option Nat} (hg : w.grownBy w' row) (hB : B ≤ w.heap.size) (hr : ∀ g, row = some g → B ≤ g) : Rd w' B A n f :=
  h.keep fun p hp => World.cell?_of_block (hg.block p.block (by omega) (fun e => by have := hr _ e.symm; omega))
theorem Rd.of_row {g : Nat} {t : TypeId} {m : Nat} (h : w.rowIs g t m f) (hn : n ≤ m) (hB : g < B) : Rd w B (some ⟨g, 0, none⟩) n f :=
  fun _ => ⟨_, rfl, hB, fun i hi => by rw [add_lit0]; exact h.cell (by omega)⟩
end

theorem below_drewN {B : Nat} {a w : World} (h : Below B a w) (n : Nat) : Below B a (w.drewN n) := ⟨h.os, h.tape, h.output, h.size, h.block⟩
theorem grown_drewN {a w : World} {row : Option Nat} (h : a.grownBy w row) (n : Nat) : a.grownBy (w.drewN n) row := ⟨h.os, h.tape, h.output, h.size, h.block⟩
theorem grown_drew {a w : World} {row : Option Nat} (h : a.grownBy w row) : a.grownBy w.drew row := ⟨h.os, h.tape, h.output, h.size, h.block⟩
theorem grown_setCell {a w : World} {g : Nat} (h : a.grownBy w (some g)) {p : Addr} (hp : p.block = g ∨ a.heap.size ≤ p.block) (u : Value) : a.grownBy (w.setCell p u) (some g) :=
  ⟨h.os, h.tape, h.output, by simpa [World.setCell] using h.size, fun i hi hne => (Below.heap_setCell w p u i (by
    rintro rfl
    rcases hp with hp | hp
    · exact hne (by rw [hp])
    · omega)).trans (h.block i hi hne)⟩
theorem grown_trans {a b c : World} {row : Option Nat} (h : a.grownBy b row) (k : b.grownBy c row) : a.grownBy c row :=
  ⟨k.os.trans h.os, k.tape.trans h.tape, k.output.trans h.output, Nat.le_trans h.size k.size, fun i hi hne => (k.block i (Nat.lt_of_lt_of_le hi h.size) hne).trans (h.block i hi hne)⟩
theorem below_of_grown {a b : World} {g : Nat} (h : a.grownBy b (some g)) {B : Nat} (hB : B ≤ g) (hs : B ≤ a.heap.size) : Below B a b :=
  ⟨h.os, h.tape, h.output, h.size, fun i hi => h.block i (by omega) (fun e => by injection e; omega)⟩
theorem grown_of_below {a w : World} (h : Below a.heap.size a w) (row : Option Nat) : a.grownBy w row := ⟨h.os, h.tape, h.output, h.size, fun i hi _ => h.block i hi⟩
theorem row_drewN {w : World} {b : Nat} {t : TypeId} {n : Nat} {f : Nat → Value} (h : w.rowIs b t n f) (k : Nat) : (w.drewN k).rowIs b t n f := h
theorem row_below {w w' : World} {b B : Nat} {t : TypeId} {n : Nat} {f : Nat → Value} (h : w.rowIs b t n f) (hb : Below B w w') (hB : b < B) : w'.rowIs b t n f := h.of_block (hb.block _ hB)

theorem bcell {B : Nat} {W w1 : World} (hb : Below B W w1) : (∀ b o, b < B → w1.cell? ⟨b, o, none⟩ = W.cell? ⟨b, o, none⟩) ∧ (∀ b o, b < B → w1.frozen? ⟨b, o, none⟩ = W.frozen? ⟨b, o, none⟩) :=
  ⟨fun b o h => hb.cell (p := ⟨b, o, none⟩) h, fun b o h => hb.frozen (p := ⟨b, o, none⟩) h⟩

/-- Only draws. -/
def Drawn (w w' : World) : Prop := ∃ d, w' = w.drewN d
theorem Drawn.refl (w : World) : Drawn w w := ⟨0, rfl⟩
theorem Drawn.trans {a b c : World} (h : Drawn a b) (k : Drawn b c) : Drawn a c := by
  obtain ⟨d, rfl⟩ := h; obtain ⟨e, rfl⟩ := k; exact ⟨d + e, by rw [World.drewN_drewN]⟩
theorem Drawn.below {a b : World} (h : Drawn a b) (B : Nat) : Below B a b := by obtain ⟨d, rfl⟩ := h; exact below_drewN (Below.refl _ _) d
theorem ret_int {k : IntKind} {a b : Int} (h : a = b) : Ending.returned (.int k a) = .returned (.int k b) := by rw [h]
theorem ret_bool {a b : Bool} (h : a = b) : Ending.returned (.bool a) = .returned (.bool b) := by rw [h]

/-- The string of n bytes. -/
def strF (n : Nat) (x : Nat → Nat) : ByteArray := ⟨((List.range n).map fun i => UInt8.ofNat (x i)).toArray⟩

theorem strF_congr {n : Nat} {x y : Nat → Nat} (h : ∀ i, i < n → x i = y i) : strF n x = strF n y := by
  unfold strF
  rw [List.map_congr_left (fun i hi => by rw [h i (List.mem_range.1 hi)])]
theorem strF_inj {n m : Nat} {x y : Nat → Nat} (hx : ∀ i, i < n → x i < 256) (hy : ∀ i, i < m → y i < 256) (h : strF n x = strF m y) : n = m ∧ ∀ i, i < n → x i = y i := by
  unfold strF at h
  have h1 : ((List.range n).map fun i => UInt8.ofNat (x i)) = ((List.range m).map fun i => UInt8.ofNat (y i)) := by
    injection h with h; simpa using h
  have hl := congrArg List.length h1
  simp only [List.length_map, List.length_range] at hl
  subst hl
  refine ⟨rfl, fun i hi => ?_⟩
  have h2 := congrArg (fun l : List UInt8 => (l.getD i 0).toNat) h1
  simp [List.getD, hi] at h2
  rw [Nat.mod_eq_of_lt (hx i hi), Nat.mod_eq_of_lt (hy i hi)] at h2
  exact h2

/-- Bytes to a string. -/
theorem run_convert_rd {P : Program} (w : World) (src dst e : TypeId) (hs : P.underlying src = some (.slice e)) (he : P.underlying e = some (.int .u8)) (hd : P.underlying dst = some .string)
    {B n c : Nat} {A : Option Addr} (x : Nat → Nat) (hr : Rd w B A n (fun i => .int .u8 ((x i : Nat) : Int))) :
    (convert src dst (.slice A n c)).run P w = .ok (.string (strF n x)) w := by
  rcases A with _ | ad
  · have hn : n = 0 := by
      rcases Nat.eq_zero_or_pos n with h | h
      · exact h
      · obtain ⟨_, h, _⟩ := hr h; cases h
    subst hn
    rw [run_convert_bytes_string w src dst e _ 0 c hs he hd]
    simp [Conv.bytesToString]
    rfl
  · have hl : (loadCells ad n).run P w = .ok (((List.range n).map fun i => ((x i : Nat) : Int)).map (Value.int .u8)).toArray w := by
      have := run_loadCells_list (P := P) w ad (((List.range n).map fun i => ((x i : Nat) : Int)).map (Value.int .u8)) (fun j v hj => by
        have hjl : j < n := by
          rcases Nat.lt_or_ge j n with h | h
          · exact h
          · simp [h] at hj
        obtain ⟨ad', h, _, hc⟩ := hr (by omega)
        injection h with h; subst h
        rw [hc j hjl]
        simp [hjl] at hj
        exact congrArg some hj)
      simpa using this
    rw [run_convert_bytes_string w src dst e _ n c hs he hd, run_bytesToString w _ n c _ hl, foldl_push_bytes]
    simp [strF, ByteArray.empty, ByteArray.emptyWithCapacity]
    rfl
end Go.Proofs.YtlcpflaofggmeaaDoor
/- Rows of the call's own that grow: append of whatever reads as a function of its index. -/
namespace Go.Proofs.YtlcpflaofggmeaaDoor
set_option maxRecDepth 40000
open Go.RowKit

/-- The slice '.slice A n c' is the call's own, and reads as f. -/
def Own (w : World) (base : Nat) (e : TypeId) (A : Option Addr) (n c : Nat) (f : Nat → Value) : Prop := w.ownsRow base e 1 (.slice A n c) n ((List.range n).map f)

section
variable {w w' : World} {base n c : Nat} {e : TypeId} {A : Option Addr} {f f' : Nat → Value}
theorem Own.nil (w : World) (base : Nat) (e : TypeId) (f : Nat → Value) : Own w base e none 0 0 f := World.ownsRow_nil w base e 1
theorem Own.congr (h : Own w base e A n c f) (k : ∀ i, i < n → f i = f' i) : Own w base e A n c f' := by
  unfold Own at *
  rwa [← List.map_congr_left (fun i hi => k i (List.mem_range.1 hi))]
theorem Own.rd (h : Own w base e A n c f) : Rd w w.heap.size A n f := fun hn => by
  obtain ⟨g, cap, hv, hb, hlt⟩ := World.ownsRow.form h hn
  have hA : A = some ⟨g, 0, none⟩ := by injection hv
  subst hA
  refine ⟨_, rfl, hlt, fun i hi => ?_⟩
  exact World.ownsRow.cells h (g := g) rfl i (f i) (by simp [hi])
theorem Own.base_le (h : Own w base e A n c f) : ∀ ad, A = some ad → base ≤ ad.block ∧ ad.block < w.heap.size := by
  rintro ad rfl
  exact World.ownsRow.lt h _ rfl
theorem Own.cap (h : Own w base e A n c f) : n ≤ c := by
  rcases h.2 with ⟨hv, _⟩ | ⟨g, cap, cur, hv, _, _, hnc, _⟩
  · injection hv with _ h1 h2; omega
  · injection hv with _ h1 h2; omega
theorem Own.drewN (h : Own w base e A n c f) (k : Nat) : Own (w.drewN k) base e A n c f := h
theorem Own.alloc (h : Own w base e A n c f) (o : Obj) : Own (w.alloc o) base e A n c f := World.ownsRow.alloc h o
theorem Own.kept {row : Option Nat} (h : Own w base e A n c f) (hg : w.grownBy w' row) (hne : ∀ ad, A = some ad → some ad.block ≠ row) : Own w' base e A n c f := by
  refine World.ownsRow.kept h hg ?_
  cases A with
  | none => exact .inl rfl
  | some ad => exact .inr (hne ad rfl)
theorem Own.below {B : Nat} (h : Own w base e A n c f) (hb : Below B w w') (hB : ∀ ad, A = some ad → ad.block < B) : Own w' base e A n c f := by
  obtain ⟨h1, h2⟩ := h
  refine ⟨h1, ?_⟩
  rcases h2 with h2 | ⟨g, cap, cur, hv, hg, hh, r⟩
  · exact .inl h2
  · refine .inr ⟨g, cap, cur, hv, hg, ?_, r⟩
    have hA : A = some ⟨g, 0, none⟩ := by injection hv
    rw [hb.block g (hB _ hA)]
    exact hh
/-- An empty composite, or a make of length 0: a new block of no cells. -/
theorem Own.new0 (w : World) (base : Nat) (e : TypeId) (f : Nat → Value) (hb : base ≤ w.heap.size) : Own (w.alloc (.cells #[] e)) base e (some ⟨w.heap.size, 0, none⟩) 0 0 f :=
  ⟨rfl, .inr ⟨w.heap.size, 0, #[], rfl, hb, heap_alloc_new w _, Nat.le_refl _, Nat.zero_le _, rfl, rfl⟩⟩
theorem Own.of_row {g m : Nat} (h : w.rowIs g e m f) (hb : base ≤ g) (hm : m ≤ maxLen) : Own w base e (some ⟨g, 0, none⟩) m m f := by
  obtain ⟨cs, hh, hs, hc⟩ := h
  refine ⟨by simp, .inr ⟨g, m, cs, rfl, hb, hh, Nat.le_refl _, hm, by omega, ?_⟩⟩
  apply List.ext_getElem?
  intro i
  by_cases hi : i < m
  · simp [hi, hc i hi]
  · simp [List.getElem?_take, hi]
end

/-- f, and behind its first n g. -/
def catF (n : Nat) (f g : Nat → Value) : Nat → Value := fun i => if i < n then f i else g (i - n)
theorem catF_map (n m : Nat) (f g : Nat → Value) : (List.range n).map f ++ (List.range m).map g = (List.range (n + m)).map (catF n f g) := by
  rw [List.range_add, List.map_append]
  congr 1
  · exact List.map_congr_left (fun i hi => by simp [catF, List.mem_range.1 hi])
  · rw [List.map_map]; exact List.map_congr_left (fun i _ => by simp [catF, show ¬ n + i < n by omega])

section
variable {P : Program} (w : World)
theorem run_app (base : Nat) (t ty e : TypeId) (i : TypeInfo) (z : Value) (bytes : Nat) (ht : P.underlying t = some (.slice e)) (hi : P.info? e = some i) (hz : i.zero = some z)
    (hsize : i.size = 1) (hby : i.bytes = bytes) (hzs : z.cells.size = 1)
    {A C : Option Addr} {n c m cm B : Nat} {f g : Nat → Value} (hown : Own w base e A n c f) (hr : Rd w B C m g) (h1 : ∀ i, i < m → (g i).oneCell' = true)
    (hbytes : n + m ≤ 9223372036854775807 ∧ (n + m) * bytes ≤ 140737488355328) (hbase : base ≤ w.heap.size) :
    ∃ A' c' w', (Builtin.append_ #[t, t] ty #[.slice A n c, .slice C m cm]).run P w = .ok (.slice A' (n + m) c') w' ∧ Own w' base e A' (n + m) c' (catF n f g) ∧
      w.grownBy w' (A.map (·.block)) ∧ (∀ ad, A' = some ad → some ad.block = A.map (·.block) ∨ ad.block = w.heap.size) := by
  have hshape : ∀ v', World.ownsRow w base e 1 v' (n + m) ((List.range (n + m)).map (catF n f g)) → True := fun _ _ => trivial
  clear hshape
  rcases C with _ | ad
  · have hm : m = 0 := by
      rcases Nat.eq_zero_or_pos m with h0 | h0
      · exact h0
      · obtain ⟨ad, h, _⟩ := hr h0
        cases h
    subst hm
    refine ⟨A, c, w, ?_, hown.congr (fun i hi => by simp [catF, show i < n by omega]), World.grownBy.refl w _, fun ad h => .inl (by rw [h]; rfl)⟩
    rcases hown.2 with ⟨hv, h0⟩ | ⟨g', cap, cur, hv, _, _, hnc, _⟩
    · injection hv with h1 h2 h3; subst h1 h2 h3
      simp [Builtin.append_, run_underlying ht, sizeOf, typeInfo, hi, Builtin.lenOf, Builtin.firstCells]
    · injection hv with h1 h2 h3; subst h1 h3
      simp [Builtin.append_, run_underlying ht, sizeOf, typeInfo, hi, Builtin.lenOf, Builtin.firstCells, hnc, storeCells]
  · have hcells : ∀ j u, ((List.range m).map g)[j]? = some u → w.cell? (ad.add j) = some u := by
      intro j u hu
      have hj : j < m := by
        rcases Nat.lt_or_ge j m with h | h
        · exact h
        · simp [h] at hu
      obtain ⟨ad', h, _, hc⟩ := hr (by omega)
      injection h with h; subst h
      rw [hc j hj]
      simpa [hj] using hu
    obtain ⟨v', w', hrun, h2, h3, _, h5⟩ := run_append_own_at (P := P) w base t ty e i z 1 bytes ht hi hz hsize hby hzs (by omega) (.slice A n c) n _ hown ad m cm ((List.range m).map g) (by simp) hcells
      (fun u hu => by obtain ⟨j, hj, rfl⟩ := List.mem_map.1 hu; exact h1 j (List.mem_range.1 hj)) (by unfold maxLen; omega) hbytes.2 hbase
    rw [catF_map] at h2
    have hv : ∃ A' c', v' = .slice A' (n + m) c' := by
      rcases h2.2 with ⟨h, h0⟩ | ⟨g', cap, cur, h, _⟩
      · exact ⟨none, 0, by rw [h, h0]⟩
      · exact ⟨_, _, h⟩
    obtain ⟨A', c', rfl⟩ := hv
    have hb : Value.ownBlock (.slice A n c) = A.map (·.block) := by cases A <;> rfl
    rw [hb] at h3 h5
    refine ⟨A', c', w', hrun, h2, h3, ?_⟩
    rintro ad' rfl
    rcases h5 with h5 | h5
    · exact .inl h5
    · exact .inr (by simpa [Value.ownBlock] using h5)

theorem wp_app {o : Oper} {a : Act} {K : Act → World → Prop} {Q : Exit → Act → World → Prop} (s x : Operand) (t : TypeId)
    (ho : o.op = .call { callee := .builtin .append, args := #[s, x], argTypes := #[t, t] })
    (base : Nat) (e : TypeId) (i : TypeInfo) (z : Value) (bytes : Nat) (ht : P.underlying t = some (.slice e)) (hi : P.info? e = some i) (hz : i.zero = some z)
    (hsize : i.size = 1) (hby : i.bytes = bytes) (hzs : z.cells.size = 1)
    {A C : Option Addr} {n c m cm B : Nat} {f g : Nat → Value} (hs : a.eval s = .slice A n c) (hx : a.eval x = .slice C m cm) (hown : Own w base e A n c f) (hr : Rd w B C m g) (h1 : ∀ i, i < m → (g i).oneCell' = true)
    (hbytes : n + m ≤ 9223372036854775807 ∧ (n + m) * bytes ≤ 140737488355328) (hbase : base ≤ w.heap.size)
    (h : ∀ A' c' w', Own w' base e A' (n + m) c' (catF n f g) → w.grownBy w' (A.map (·.block)) → (∀ ad, A' = some ad → some ad.block = A.map (·.block) ∨ ad.block = w.heap.size) → K (a.put o.dst (.slice A' (n + m) c')) w') : o.wp P a w K Q := by
  obtain ⟨A', c', w', hrun, h2, h3, h4⟩ := run_app (P := P) w base t o.type e i z bytes ht hi hz hsize hby hzs (cm := cm) hown hr h1 hbytes hbase
  unfold Oper.wp execOp
  simp only [ho, resolve, invoke, builtin, Sem.run_bind, Sem.run_pure, Result.andThen_ok, List.map_toArray, List.map_cons, List.map_nil, hs, hx, hrun]
  exact h A' c' w' h2 h3 h4

/-- append, in a list of operations that don't draw: the new length N and what it reads as, F, as the caller spells them. -/
theorem wpList_app {ops : Array Oper} {rest : List Oper} {o : Oper} {a : Act} {Q : Exit → Act → World → Prop} (s x : Operand) (t base : Nat) {e : TypeId} {z : Value} {bytes : Nat}
    (hinfo : (P.info? e).map (fun i => (i.zero, i.size, i.bytes)) = some (some z, 1, bytes)) (ht : P.underlying t = some (.slice e)) (hzs : z.cells.size = 1)
    (hgd : o.guard = none) (ho : o.op = .call { callee := .builtin .append, args := #[s, x], argTypes := #[t, t] })
    (N : Nat) (F : Nat → Value)
    {A C : Option Addr} {n c m cm B : Nat} {f g : Nat → Value} (hs : a.eval s = .slice A n c) (hx : a.eval x = .slice C m cm) (hown : Own w base e A n c f) (hr : Rd w B C m g) (h1 : ∀ i, i < m → (g i).oneCell' = true)
    (hN : N = n + m) (hF : ∀ i, i < N → catF n f g i = F i)
    (hbytes : N ≤ 9223372036854775807 ∧ N * bytes ≤ 140737488355328) (hbase : base ≤ w.heap.size)
    (h : ∀ A' c' w', Own w' base e A' N c' F → w.grownBy w' (A.map (·.block)) → (∀ ad, A' = some ad → some ad.block = A.map (·.block) ∨ ad.block = w.heap.size) → wpList P ops Q rest (a.put o.dst (.slice A' N c')) w') :
    wpList P ops Q (o :: rest) a w := by
  obtain ⟨i, hi, hz, hsize, hby⟩ := info_parts hinfo
  subst hN
  exact wpList_plain hgd fun _ hK => wp_app w s x t ho base e i z bytes ht hi hz hsize hby hzs hs hx hown hr h1 hbytes hbase fun A' c' w' h2 h3 h4 => hK _ _ (h A' c' w' (h2.congr hF) h3 h4)
end

/-- Behind an append the old memory is as it was. -/
theorem below_app {B : Nat} {a w w' : World} {A : Option Addr} (h : Below B a w) (hg : w.grownBy w' (A.map (·.block))) (hB : B ≤ w.heap.size) (hA : ∀ ad, A = some ad → B ≤ ad.block) : Below B a w' :=
  h.grown hg hB fun k hk => by
    cases A with
    | none => cases hk
    | some ad => injection hk with hk; subst hk; exact hA ad rfl
/-- A new block of one cell, as a slice. -/
theorem Rd.one (w : World) (x : Value) (t : TypeId) : Rd (w.alloc (.cells #[x] t)) (w.heap.size + 1) (some ⟨w.heap.size, 0, none⟩) 1 (fun _ => x) := fun _ =>
  ⟨_, rfl, Nat.lt_succ_self _, fun i hi => by
    obtain rfl : i = 0 := by omega
    exact cell_one_new w x t 0 x rfl⟩
/-- A new block of cells that are written out, as a slice. -/
theorem Rd.lit (w : World) (cs : Array Value) (t : TypeId) (n : Nat) (f : Nat → Value) (h : ∀ i, i < n → cs[i]? = some (f i)) : Rd (w.alloc (.cells cs t)) (w.heap.size + 1) (some ⟨w.heap.size, 0, none⟩) n f := fun _ =>
  ⟨_, rfl, Nat.lt_succ_self _, fun i hi => by rw [add_lit0, World.cell?_alloc_at _ _ _ _ rfl, h i hi]⟩
end Go.Proofs.YtlcpflaofggmeaaDoor
