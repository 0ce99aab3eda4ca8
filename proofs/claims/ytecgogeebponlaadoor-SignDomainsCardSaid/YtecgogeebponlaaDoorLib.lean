/- Words for memory: a slice that reads as a function of its index, kept over all that the call does to newer blocks. -/
import Derived.Test.YtecgogeebponlaaDoorRows
import Derived.WalkKit
import Derived.WalkSpells
import Derived.WalkLawsBesides
import Derived.BigQuiet
import Derived.Deep.OwnRows
import Derived.Deep.RegionWith
import Derived.Deep.Draws
import Derived.Deep.Grids
import Derived.Deep.DeepFit
import Derived.Lib.Hide
namespace Go.Proofs.YtecgogeebponlaaDoor
set_option maxRecDepth 40000
open Go.RowKit

theorem block_of_add (a : Addr) (n : Nat) : (a.add n).block = a.block := by unfold Addr.add; split <;> rfl
theorem add_of_add (a : Addr) (i j : Nat) : (a.add i).add j = a.add (i + j) := by
  unfold Addr.add
  by_cases hi : i = 0 <;> by_cases hj : j = 0 <;> simp [hi, hj, Nat.add_assoc]
theorem add_lit0 (g n : Nat) : (⟨g, 0, none⟩ : Addr).add n = ⟨g, n, none⟩ := by
  unfold Addr.add; split <;> simp_all

/-- The slice '.slice A n _' reads as f, and lies below block B. -/
def Rd (w : World) (B : Nat) (A : Option Addr) (n : Nat) (f : Nat → Value) : Prop :=
  0 < n → ∃ ad, A = some ad ∧ ad.block < B ∧ ∀ i, i < n → w.cell? (ad.add i) = some (f i)

section
variable {w w' : World} {B B' n : Nat} {A : Option Addr} {f f' : Nat → Value}
theorem Rd.none_ : Rd w B A 0 f := fun h => absurd h (by omega)
theorem Rd.at_ {k : Nat} (h : Rd w B A n f) (hk : k < n) : ∃ ad, A = some ad ∧ ad.block < B ∧ w.cell? (ad.add k) = some (f k) := by
  obtain ⟨ad, e, hb, hc⟩ := h (by omega)
  exact ⟨ad, e, hb, hc k hk⟩
theorem Rd.cell_ {ad : Addr} {k : Nat} (h : Rd w B (some ad) n f) (hk : k < n) : w.cell? (ad.add k) = some (f k) := by
  obtain ⟨ad', e, hb, hc⟩ := h (by omega)
  injection e with e
  subst e
  exact hc k hk
theorem Rd.keep (h : Rd w B A n f) (hk : ∀ p : Addr, p.block < B → w'.cell? p = w.cell? p) : Rd w' B A n f := fun hn => by
  obtain ⟨ad, e, hb, hc⟩ := h hn
  exact ⟨ad, e, hb, fun i hi => (hk _ (by rw [block_of_add]; exact hb)).trans (hc i hi)⟩
theorem Rd.more (h : Rd w B A n f) (hB : B ≤ B') : Rd w B' A n f := fun hn => by
  obtain ⟨ad, e, hb, hc⟩ := h hn
  exact ⟨ad, e, by omega, hc⟩
theorem Rd.congr (h : Rd w B A n f) (e : ∀ i, i < n → f i = f' i) : Rd w B A n f' := fun hn => by
  obtain ⟨ad, ea, hb, hc⟩ := h hn
  exact ⟨ad, ea, hb, fun i hi => (hc i hi).trans (by rw [e i hi])⟩
theorem Rd.short {k : Nat} (h : Rd w B A n f) (hk : k ≤ n) : Rd w B A k f := fun hn => by
  obtain ⟨ad, ea, hb, hc⟩ := h (by omega)
  exact ⟨ad, ea, hb, fun i hi => hc i (by omega)⟩
theorem Rd.below (h : Rd w B A n f) (hb : Below B w w') : Rd w' B A n f := h.keep fun _ hp => hb.cell hp
theorem Rd.drew (h : Rd w B A n f) : Rd w.drew B A n f := h
theorem Rd.drewN (h : Rd w B A n f) (k : Nat) : Rd (w.drewN k) B A n f := h
theorem Rd.alloc (h : Rd w B A n f) (hB : B ≤ w.heap.size) (o : Obj) : Rd (w.alloc o) B A n f := h.keep fun p hp => World.cell?_alloc_lt w o p (by omega)
theorem Rd.setCell (h : Rd w B A n f) {p : Addr} (hB : B ≤ p.block) (u : Value) : Rd (w.setCell p u) B A n f :=
  h.keep fun q hq => World.cell?_setCell_other w p q u (fun e => by subst e; omega)
theorem Rd.grown (h : Rd w B A n f) {row : Option Nat} (hg : w.grownBy w' row) (hB : B ≤ w.heap.size) (hr : ∀ g, row = some g → B ≤ g) : Rd w' B A n f :=
  h.keep fun p hp => World.cell?_of_block (hg.block p.block (by omega) (fun e => by have := hr _ e.symm; omega))
theorem Rd.of_row {g : Nat} {t : TypeId} {m : Nat} (h : w.rowIs g t m f) (hn : n ≤ m) (hB : g < B) : Rd w B (some ⟨g, 0, none⟩) n f :=
  fun _ => ⟨_, rfl, hB, fun i hi => by rw [add_lit0]; exact h.cell (by omega)⟩
end

theorem below_drewN {B : Nat} {a w : World} (h : Below B a w) (n : Nat) : Below B a (w.drewN n) := ⟨h.os, h.tape, h.output, h.size, h.block⟩
theorem grown_drewN {a w : World} {row : Option Nat} (h : a.grownBy w row) (n : Nat) : a.grownBy (w.drewN n) row := ⟨h.os, h.tape, h.output, h.size, h.block⟩
theorem grown_drew {a w : World} {row : Option Nat} (h : a.grownBy w row) : a.grownBy w.drew row := ⟨h.os, h.tape, h.output, h.size, h.block⟩
theorem grown_setCell {a w : World} {g : Nat} (h : a.grownBy w (some g)) {p : Addr} (hp : p.block = g ∨ a.heap.size ≤ p.block) (u : Value) : a.grownBy (w.setCell p u) (some g) :=
  ⟨h.os, h.tape, h.output, by simpa [World.setCell] using h.size, fun i hi hne => (Below.heap_setCell w p u i (by
    rintro rfl
    rcases hp with hp | hp
    · exact hne (by rw [hp])
    · omega)).trans (h.block i hi hne)⟩
theorem grown_trans {a b c : World} {row : Option Nat} (h : a.grownBy b row) (k : b.grownBy c row) : a.grownBy c row :=
  ⟨k.os.trans h.os, k.tape.trans h.tape, k.output.trans h.output, Nat.le_trans h.size k.size, fun i hi hne => (k.block i (Nat.lt_of_lt_of_le hi h.size) hne).trans (h.block i hi hne)⟩
theorem below_of_grown {a b : World} {g : Nat} (h : a.grownBy b (some g)) {B : Nat} (hB : B ≤ g) (hs : B ≤ a.heap.size) : Below B a b :=
  ⟨h.os, h.tape, h.output, h.size, fun i hi => h.block i (by omega) (fun e => by injection e; omega)⟩
theorem grown_of_below {a w : World} (h : Below a.heap.size a w) (row : Option Nat) : a.grownBy w row := ⟨h.os, h.tape, h.output, h.size, fun i hi _ => h.block i hi⟩
theorem row_drewN {w : World} {b : Nat} {t : TypeId} {n : Nat} {f : Nat → Value} (h : w.rowIs b t n f) (k : Nat) : (w.drewN k).rowIs b t n f := h
theorem row_below {w w' : World} {b B : Nat} {t : TypeId} {n : Nat} {f : Nat → Value} (h : w.rowIs b t n f) (hb : Below B w w') (hB : b < B) : w'.rowIs b t n f := h.of_block (hb.block _ hB)

theorem bcell {B : Nat} {W w1 : World} (hb : Below B W w1) : (∀ b o, b < B → w1.cell? ⟨b, o, none⟩ = W.cell? ⟨b, o, none⟩) ∧ (∀ b o, b < B → w1.frozen? ⟨b, o, none⟩ = W.frozen? ⟨b, o, none⟩) :=
  ⟨fun b o h => hb.cell (p := ⟨b, o, none⟩) h, fun b o h => hb.frozen (p := ⟨b, o, none⟩) h⟩

/-- Only draws. -/
def Drawn (w w' : World) : Prop := ∃ d, w' = w.drewN d
theorem Drawn.refl (w : World) : Drawn w w := ⟨0, rfl⟩
theorem Drawn.trans {a b c : World} (h : Drawn a b) (k : Drawn b c) : Drawn a c := by
  obtain ⟨d, rfl⟩ := h; obtain ⟨e, rfl⟩ := k; exact ⟨d + e, by rw [World.drewN_drewN]⟩
theorem Drawn.below {a b : World} (h : Drawn a b) (B : Nat) : Below B a b := by obtain ⟨d, rfl⟩ := h; exact below_drewN (Below.refl _ _) d
theorem ret_int {k : IntKind} {a b : Int} (h : a = b) : Ending.returned (.int k a) = .returned (.int k b) := by rw [h]
theorem ret_bool {a b : Bool} (h : a = b) : Ending.returned (.bool a) = .returned (.bool b) := by rw [h]

/-- The string of n bytes. -/
def strF (n : Nat) (x : Nat → Nat) : ByteArray := ⟨((List.range n).map fun i => UInt8.ofNat (x i)).toArray⟩

theorem strF_congr {n : Nat} {x y : Nat → Nat} (h : ∀ i, i < n → x i = y i) : strF n x = strF n y := by
  unfold strF
  rw [List.map_congr_left (fun i hi => by rw [h i (List.mem_range.1 hi)])]
theorem strF_inj {n m : Nat} {x y : Nat → Nat} (hx : ∀ i, i < n → x i < 256) (hy : ∀ i, i < m → y i < 256) (h : strF n x = strF m y) : n = m ∧ ∀ i, i < n → x i = y i := by
  unfold strF at h
  have h1 : ((List.range n).map fun i => UInt8.ofNat (x i)) = ((List.range m).map fun i => UInt8.ofNat (y i)) := by
    injection h with h; simpa using h
  have hl := congrArg List.length h1
  simp only [List.length_map, List.length_range] at hl
  subst hl
  refine ⟨rfl, fun i hi => ?_⟩
  have h2 := congrArg (fun l : List UInt8 => (l.getD i 0).toNat) h1
  simp [List.getD, hi] at h2
  rw [Nat.mod_eq_of_lt (hx i hi), Nat.mod_eq_of_lt (hy i hi)] at h2
  exact h2

/-- Bytes to a string. -/
theorem run_convert_rd {P : Program} (w : World) (src dst e : TypeId) (hs : P.underlying src = some (.slice e)) (he : P.underlying e = some (.int .u8)) (hd : P.underlying dst = some .string)
    {B n c : Nat} {A : Option Addr} (x : Nat → Nat) (hr : Rd w B A n (fun i => .int .u8 ((x i : Nat) : Int))) :
    (convert src dst (.slice A n c)).run P w = .ok (.string (strF n x)) w := by
  rcases A with _ | ad
  · have hn : n = 0 := by
      rcases Nat.eq_zero_or_pos n with h | h
      · exact h
      · obtain ⟨_, h, _⟩ := hr h; cases h
    subst hn
    rw [run_convert_bytes_string w src dst e _ 0 c hs he hd]
    simp [Conv.bytesToString]
    rfl
  · have hl : (loadCells ad n).run P w = .ok (((List.range n).map fun i => ((x i : Nat) : Int)).map (Value.int .u8)).toArray w := by
      have := run_loadCells_list (P := P) w ad (((List.range n).map fun i => ((x i : Nat) : Int)).map (Value.int .u8)) (fun j v hj => by
        have hjl : j < n := by
          rcases Nat.lt_or_ge j n with h | h
          · exact h
          · simp [h] at hj
        obtain ⟨ad', h, _, hc⟩ := hr (by omega)
        injection h with h; subst h
        rw [hc j hjl]
        simp [hjl] at hj
        exact congrArg some hj)
      simpa using this
    rw [run_convert_bytes_string w src dst e _ n c hs he hd, run_bytesToString w _ n c _ hl, foldl_push_bytes]
    simp [strF, ByteArray.empty, ByteArray.emptyWithCapacity]
    rfl
end Go.Proofs.YtecgogeebponlaaDoor
