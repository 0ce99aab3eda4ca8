/- Lemmas that the proof stands on. -/
import Derived.Test.YtomilckcgmhfcaaDoorGLit1
import Derived.Test.YtomilckcgmhfcaaDoorRows
import Derived.WalkKit
import Derived.WalkSpells
import Derived.WalkLawsBesides
import Derived.BigQuiet
import Derived.Deep.OwnRows
import Derived.Deep.RegionWith
import Derived.Deep.Draws
import Derived.Deep.Grids
import Derived.Deep.DeepFit
import Derived.Lib.Hide
import Derived.ProofKit
import Derived.OpenShut
import Derived.ShutString
import Derived.SizedLaws
import Derived.JoinedCond
import Derived.Maps.AppendAt
import Derived.Deep.AppendLies
import Derived.RegionCalls
namespace Go.Proofs.YtomilckcgmhfcaaDoor
set_option maxRecDepth 40000
set_option maxHeartbeats 64000000
open Go.RowKit
theorem qM {α : Type} {p : α → Prop} {a : α} {l : List α} (h : p a ∧ ∀ x, x ∈ l → p x) : ∀ x, x ∈ a :: l → p x := List.forall_mem_cons.2 h
theorem lR {n : Nat} : n ≤ n := Nat.le_refl n
theorem lT {a b c : Nat} (h : a ≤ b) (k : b ≤ c) : a ≤ c := Nat.le_trans h k
abbrev Ty3 := @Tryd.underlying3
abbrev Ty4 := @Tryd.underlying4
abbrev Ty5 := @Tryd.underlying5
abbrev Ty22 := @Tryd.underlying22
abbrev Ty24 := @Tryd.underlying24
abbrev Ty28 := @Tryd.underlying28
abbrev Ty30 := @Tryd.underlying30
abbrev Ty31 := @Tryd.underlying31
abbrev Ty32 := @Tryd.underlying32
abbrev Ty34 := @Tryd.underlying34
abbrev Ty35 := @Tryd.underlying35
abbrev Ty36 := @Tryd.underlying36
abbrev Ty37 := @Tryd.underlying37
abbrev Ty38 := @Tryd.underlying38
abbrev Ty39 := @Tryd.underlying39
abbrev Ty42 := @Tryd.underlying42
abbrev Ty47 := @Tryd.underlying47
abbrev Ty49 := @Tryd.underlying49
abbrev Ty54 := @Tryd.underlying54
abbrev Ty66 := @Tryd.underlying66
abbrev Ty68 := @Tryd.underlying68
abbrev Ty108 := @Tryd.underlying108
abbrev Ty112 := @Tryd.underlying112
abbrev Ty113 := @Tryd.underlying113
abbrev Ty134 := @Tryd.underlying134
abbrev Ty139 := @Tryd.underlying139
theorem pcX : (∀ (a : Act) (d : Tmp) (v : Value), a.put (some d) v = { a with tmps := a.tmps.setIfInBounds d v }) ∧ (∀ (a : Act) (v : Value), a.put none v = a) ∧ (∀ (l : List Value) (i : Nat) (x : Value), l.toArray.setIfInBounds i x = (l.set i x).toArray) ∧ (∀ (x y : Value) (n : Nat) (l : List Value), (x :: l).set (n + 1) y = x :: l.set n y) ∧ (∀ (x y : Value) (l : List Value), (x :: l).set 0 y = y :: l) :=
 ⟨fun _ _ _ => rfl, fun _ _ => rfl, fun l i x => by simp, fun _ _ _ _ => rfl, fun _ _ _ => rfl⟩

theorem za7 (a : Addr) (n : Nat) : (a.add n).block = a.block := by unfold Addr.add; split <;> rfl
theorem zfo (a : Addr) (i j : Nat) : (a.add i).add j = a.add (i + j) := by
 unfold Addr.add
 by_cases hi : i = 0 <;> by_cases hj : j = 0 <;> simp [hi, hj, Nat.add_assoc]
theorem zai (g n : Nat) : (⟨g, 0, none⟩ : Addr).add n = ⟨g, n, none⟩ := by
 unfold Addr.add; split <;> simp_all

def Rd (w : World) (B : Nat) (A : Option Addr) (n : Nat) (f : Nat → Value) : Prop :=
 0 < n → ∃ ad, A = some ad ∧ ad.block < B ∧ ∀ i, i < n → w.cell? (ad.add i) = some (f i)

section
variable {w w' : World} {B B' n : Nat} {A : Option Addr} {f f' : Nat → Value}
theorem Rd.none_ : Rd w B A 0 f := fun h => absurd h (by omega)
theorem Rd.at_ {k : Nat} (h : Rd w B A n f) (hk : k < n) : ∃ ad, A = some ad ∧ ad.block < B ∧ w.cell? (ad.add k) = some (f k) := by
 obtain ⟨ad, e, hb, hc⟩ := h (by omega)
 exact ⟨ad, e, hb, hc k hk⟩
theorem Rd.cell_ {ad : Addr} {k : Nat} (h : Rd w B (some ad) n f) (hk : k < n) : w.cell? (ad.add k) = some (f k) := by
 obtain ⟨ad', e, hb, hc⟩ := h (by omega)
 injection e with e
 subst e
 exact hc k hk
theorem Rd.keep (h : Rd w B A n f) (hk : ∀ p : Addr, p.block < B → w'.cell? p = w.cell? p) : Rd w' B A n f := fun hn => by
 obtain ⟨ad, e, hb, hc⟩ := h hn
 exact ⟨ad, e, hb, fun i hi => (hk _ (by rw [za7]; exact hb)).trans (hc i hi)⟩
theorem Rd.more (h : Rd w B A n f) (hB : B ≤ B') : Rd w B' A n f := fun hn => by
 obtain ⟨ad, e, hb, hc⟩ := h hn
 exact ⟨ad, e, by omega, hc⟩
theorem Rd.congr (h : Rd w B A n f) (e : ∀ i, i < n → f i = f' i) : Rd w B A n f' := fun hn => by
 obtain ⟨ad, ea, hb, hc⟩ := h hn
 exact ⟨ad, ea, hb, fun i hi => (hc i hi).trans (by rw [e i hi])⟩
theorem Rd.short {k : Nat} (h : Rd w B A n f) (hk : k ≤ n) : Rd w B A k f := fun hn => by
 obtain ⟨ad, ea, hb, hc⟩ := h (by omega)
 exact ⟨ad, ea, hb, fun i hi => hc i (by omega)⟩
theorem Rd.below (h : Rd w B A n f) (hb : Below B w w') : Rd w' B A n f := h.keep fun _ hp => hb.cell hp
theorem Rd.alloc (h : Rd w B A n f) (hB : B ≤ w.heap.size) (o : Obj) : Rd (w.alloc o) B A n f := h.keep fun p hp => World.cell?_alloc_lt w o p (by omega)
theorem Rd.grown (h : Rd w B A n f) {row : Option Nat} (hg : w.grownBy w' row) (hB : B ≤ w.heap.size) (hr : ∀ g, row = some g → B ≤ g) : Rd w' B A n f :=
 h.keep fun p hp => World.cell?_of_block (hg.block p.block (by omega) (fun e => by have := hr _ e.symm; omega))
theorem Rd.of_row {g : Nat} {t : TypeId} {m : Nat} (h : w.rowIs g t m f) (hn : n ≤ m) (hB : g < B) : Rd w B (some ⟨g, 0, none⟩) n f :=
 fun _ => ⟨_, rfl, hB, fun i hi => by rw [zai]; exact h.cell (by omega)⟩
end

theorem zng {a w : World} {row : Option Nat} (h : a.grownBy w row) (n : Nat) : a.grownBy (w.drewN n) row := ⟨h.os, h.tape, h.output, h.size, h.block⟩
theorem zoi {a w : World} {row : Option Nat} (h : a.grownBy w row) : a.grownBy w.drew row := ⟨h.os, h.tape, h.output, h.size, h.block⟩
theorem zbv {a w : World} {g : Nat} (h : a.grownBy w (some g)) {p : Addr} (hp : p.block = g ∨ a.heap.size ≤ p.block) (u : Value) : a.grownBy (w.setCell p u) (some g) :=
 ⟨h.os, h.tape, h.output, by simpa [World.setCell] using h.size, fun i hi hne => (Below.heap_setCell w p u i (by
  rintro rfl
  rcases hp with hp | hp
  ·exact hne (by rw [hp])
  ·omega)).trans (h.block i hi hne)⟩
theorem zir {a b c : World} {row : Option Nat} (h : a.grownBy b row) (k : b.grownBy c row) : a.grownBy c row :=
 ⟨k.os.trans h.os, k.tape.trans h.tape, k.output.trans h.output, lT h.size k.size, fun i hi hne => (k.block i (Nat.lt_of_lt_of_le hi h.size) hne).trans (h.block i hi hne)⟩
theorem zj8 {a b : World} {g : Nat} (h : a.grownBy b (some g)) {B : Nat} (hB : B ≤ g) (hs : B ≤ a.heap.size) : Below B a b :=
 ⟨h.os, h.tape, h.output, h.size, fun i hi => h.block i (by omega) (fun e => by injection e; omega)⟩
theorem zgm {a w : World} (h : Below a.heap.size a w) (row : Option Nat) : a.grownBy w row := ⟨h.os, h.tape, h.output, h.size, fun i hi _ => h.block i hi⟩
theorem zaj {w w' : World} {b B : Nat} {t : TypeId} {n : Nat} {f : Nat → Value} (h : w.rowIs b t n f) (hb : Below B w w') (hB : b < B) : w'.rowIs b t n f := h.of_block (hb.block _ hB)

theorem zb7 {k : IntKind} {a b : Int} (h : a = b) : Ending.returned (.int k a) = .returned (.int k b) := by rw [h]
theorem zeh {a b : Bool} (h : a = b) : Ending.returned (.bool a) = .returned (.bool b) := by rw [h]

end Go.Proofs.YtomilckcgmhfcaaDoor
namespace Go.Proofs.YtomilckcgmhfcaaDoor
set_option maxRecDepth 40000
set_option maxHeartbeats 64000000
open Go.RowKit Go.ChangeShapes Go.WideShapes Go.ChangeAt

theorem ztk {w : World} {a : Addr} {v : Value} (h : w.cell? a = some v) : a.block < w.heap.size := by
 rcases Nat.lt_or_ge a.block w.heap.size with hl | hl
 ·exact hl
 ·exfalso
  unfold World.cell? at h
  rw [Array.getElem?_eq_none hl] at h
  simp at h

theorem zw9 {n : Int} (h : (Lit.int .u8 n).wf = true) : 0 ≤ n ∧ n < 256 := by
 simp [Lit.wf, IntKind.min, IntKind.max, IntKind.signed, IntKind.bits] at h; omega
theorem zvi {n : Int} (h : (Lit.int .u64 n).wf = true) : 0 ≤ n ∧ n < 18446744073709551616 := by
 simp [Lit.wf, IntKind.min, IntKind.max, IntKind.signed, IntKind.bits] at h; omega
end Go.Proofs.YtomilckcgmhfcaaDoor
namespace Go.Proofs.YtomilckcgmhfcaaDoor
set_option maxRecDepth 40000
set_option maxHeartbeats 64000000
open Go.RowKit

def Own (w : World) (base : Nat) (e : TypeId) (A : Option Addr) (n c : Nat) (f : Nat → Value) : Prop := w.ownsRow base e 1 (.slice A n c) n ((List.range n).map f)

section
variable {w w' : World} {base n c : Nat} {e : TypeId} {A : Option Addr} {f f' : Nat → Value}
theorem Own.nil (w : World) (base : Nat) (e : TypeId) (f : Nat → Value) : Own w base e none 0 0 f := World.ownsRow_nil w base e 1
theorem Own.congr (h : Own w base e A n c f) (k : ∀ i, i < n → f i = f' i) : Own w base e A n c f' := by
 unfold Own at *
 rwa [← List.map_congr_left (fun i hi => k i (List.mem_range.1 hi))]
theorem Own.rd (h : Own w base e A n c f) : Rd w w.heap.size A n f := fun hn => by
 obtain ⟨g, cap, hv, hb, hlt⟩ := World.ownsRow.form h hn
 have hA : A = some ⟨g, 0, none⟩ := by injection hv
 subst hA
 refine ⟨_, rfl, hlt, fun i hi => ?_⟩
 exact World.ownsRow.cells h (g := g) rfl i (f i) (by simp [hi])
theorem Own.base_le (h : Own w base e A n c f) : ∀ ad, A = some ad → base ≤ ad.block ∧ ad.block < w.heap.size := by
 rintro ad rfl
 exact World.ownsRow.lt h _ rfl
theorem Own.cap (h : Own w base e A n c f) : n ≤ c := by
 rcases h.2 with ⟨hv, _⟩ | ⟨g, cap, cur, hv, _, _, hnc, _⟩
 ·injection hv with _ h1 h2; omega
 ·injection hv with _ h1 h2; omega
theorem Own.alloc (h : Own w base e A n c f) (o : Obj) : Own (w.alloc o) base e A n c f := World.ownsRow.alloc h o
theorem Own.below {B : Nat} (h : Own w base e A n c f) (hb : Below B w w') (hB : ∀ ad, A = some ad → ad.block < B) : Own w' base e A n c f := by
 obtain ⟨h1, h2⟩ := h
 refine ⟨h1, ?_⟩
 rcases h2 with h2 | ⟨g, cap, cur, hv, hg, hh, r⟩
 ·exact .inl h2
 ·refine .inr ⟨g, cap, cur, hv, hg, ?_, r⟩
  have hA : A = some ⟨g, 0, none⟩ := by injection hv
  rw [hb.block g (hB _ hA)]
  exact hh
theorem Own.new0 (w : World) (base : Nat) (e : TypeId) (f : Nat → Value) (hb : base ≤ w.heap.size) : Own (w.alloc (.cells #[] e)) base e (some ⟨w.heap.size, 0, none⟩) 0 0 f :=
 ⟨rfl, .inr ⟨w.heap.size, 0, #[], rfl, hb, heap_alloc_new w _, Nat.le_refl _, Nat.zero_le _, rfl, rfl⟩⟩
end

def catF (n : Nat) (f g : Nat → Value) : Nat → Value := fun i => if i < n then f i else g (i - n)
theorem ziz (n m : Nat) (f g : Nat → Value) : (List.range n).map f ++ (List.range m).map g = (List.range (n + m)).map (catF n f g) := by
 rw [List.range_add, List.map_append]
 congr 1
 ·exact List.map_congr_left (fun i hi => by simp [catF, List.mem_range.1 hi])
 ·rw [List.map_map]; exact List.map_congr_left (fun i _ => by simp [catF, show ¬ n + i < n by omega])

section
variable {P : Program} (w : World)
theorem zj9 (base : Nat) (t ty e : TypeId) (i : TypeInfo) (z : Value) (bytes : Nat) (ht : P.underlying t = some (.slice e)) (hi : P.info? e = some i) (hz : i.zero = some z)
    (hsize : i.size = 1) (hby : i.bytes = bytes) (hzs : z.cells.size = 1)
    {A C : Option Addr} {n c m cm B : Nat} {f g : Nat → Value} (hown : Own w base e A n c f) (hr : Rd w B C m g) (h1 : ∀ i, i < m → (g i).oneCell' = true)
    (hbytes : n + m ≤ 9223372036854775807 ∧ (n + m) * bytes ≤ 140737488355328) (hbase : base ≤ w.heap.size) :
    ∃ A' c' w', (Builtin.append_ #[t, t] ty #[.slice A n c, .slice C m cm]).run P w = .ok (.slice A' (n + m) c') w' ∧ Own w' base e A' (n + m) c' (catF n f g) ∧
     w.grownBy w' (A.map (·.block)) ∧ (∀ ad, A' = some ad → some ad.block = A.map (·.block) ∨ ad.block = w.heap.size) := by
 have hshape : ∀ v', World.ownsRow w base e 1 v' (n + m) ((List.range (n + m)).map (catF n f g)) → True := fun _ _ => trivial
 clear hshape
 rcases C with _ | ad
 ·have hm : m = 0 := by
   rcases Nat.eq_zero_or_pos m with h0 | h0
   ·exact h0
   ·obtain ⟨ad, h, _⟩ := hr h0
    cases h
  subst hm
  refine ⟨A, c, w, ?_, hown.congr (fun i hi => by simp [catF, show i < n by omega]), World.grownBy.refl w _, fun ad h => .inl (by rw [h]; rfl)⟩
  rcases hown.2 with ⟨hv, h0⟩ | ⟨g', cap, cur, hv, _, _, hnc, _⟩
  ·injection hv with h1 h2 h3; subst h1 h2 h3
   simp [Builtin.append_, run_underlying ht, sizeOf, typeInfo, hi, Builtin.lenOf, Builtin.firstCells]
  ·injection hv with h1 h2 h3; subst h1 h3
   simp [Builtin.append_, run_underlying ht, sizeOf, typeInfo, hi, Builtin.lenOf, Builtin.firstCells, hnc, storeCells]
 ·have hcells : ∀ j u, ((List.range m).map g)[j]? = some u → w.cell? (ad.add j) = some u := by
   intro j u hu
   have hj : j < m := by
    rcases Nat.lt_or_ge j m with h | h
    ·exact h
    ·simp [h] at hu
   obtain ⟨ad', h, _, hc⟩ := hr (by omega)
   injection h with h; subst h
   rw [hc j hj]
   simpa [hj] using hu
  obtain ⟨v', w', hrun, h2, h3, _, h5⟩ := run_append_own_at (P := P) w base t ty e i z 1 bytes ht hi hz hsize hby hzs (by omega) (.slice A n c) n _ hown ad m cm ((List.range m).map g) (by simp) hcells
    (fun u hu => by obtain ⟨j, hj, rfl⟩ := List.mem_map.1 hu; exact h1 j (List.mem_range.1 hj)) (by unfold maxLen; omega) hbytes.2 hbase
  rw [ziz] at h2
  have hv : ∃ A' c', v' = .slice A' (n + m) c' := by
   rcases h2.2 with ⟨h, h0⟩ | ⟨g', cap, cur, h, _⟩
   ·exact ⟨none, 0, by rw [h, h0]⟩
   ·exact ⟨_, _, h⟩
  obtain ⟨A', c', rfl⟩ := hv
  have hb : Value.ownBlock (.slice A n c) = A.map (·.block) := by cases A <;> rfl
  rw [hb] at h3 h5
  refine ⟨A', c', w', hrun, h2, h3, ?_⟩
  rintro ad' rfl
  rcases h5 with h5 | h5
  ·exact .inl h5
  ·exact .inr (by simpa [Value.ownBlock] using h5)

theorem zph {o : Oper} {a : Act} {K : Act → World → Prop} {Q : Exit → Act → World → Prop} (s x : Operand) (t : TypeId)
    (ho : o.op = .call { callee := .builtin .append, args := #[s, x], argTypes := #[t, t] })
    (base : Nat) (e : TypeId) (i : TypeInfo) (z : Value) (bytes : Nat) (ht : P.underlying t = some (.slice e)) (hi : P.info? e = some i) (hz : i.zero = some z)
    (hsize : i.size = 1) (hby : i.bytes = bytes) (hzs : z.cells.size = 1)
    {A C : Option Addr} {n c m cm B : Nat} {f g : Nat → Value} (hs : a.eval s = .slice A n c) (hx : a.eval x = .slice C m cm) (hown : Own w base e A n c f) (hr : Rd w B C m g) (h1 : ∀ i, i < m → (g i).oneCell' = true)
    (hbytes : n + m ≤ 9223372036854775807 ∧ (n + m) * bytes ≤ 140737488355328) (hbase : base ≤ w.heap.size)
    (h : ∀ A' c' w', Own w' base e A' (n + m) c' (catF n f g) → w.grownBy w' (A.map (·.block)) → (∀ ad, A' = some ad → some ad.block = A.map (·.block) ∨ ad.block = w.heap.size) → K (a.put o.dst (.slice A' (n + m) c')) w') : o.wp P a w K Q := by
 obtain ⟨A', c', w', hrun, h2, h3, h4⟩ := zj9 (P := P) w base t o.type e i z bytes ht hi hz hsize hby hzs (cm := cm) hown hr h1 hbytes hbase
 unfold Oper.wp execOp
 simp only [ho, resolve, invoke, builtin, Sem.run_bind, Sem.run_pure, Result.andThen_ok, List.map_toArray, List.map_cons, List.map_nil, hs, hx, hrun]
 exact h A' c' w' h2 h3 h4

theorem zfp {ops : Array Oper} {rest : List Oper} {o : Oper} {a : Act} {Q : Exit → Act → World → Prop} (s x : Operand) (t base : Nat) {e : TypeId} {z : Value} {bytes : Nat}
    (hinfo : (P.info? e).map (fun i => (i.zero, i.size, i.bytes)) = some (some z, 1, bytes)) (ht : P.underlying t = some (.slice e)) (hzs : z.cells.size = 1)
    (hgd : o.guard = none) (ho : o.op = .call { callee := .builtin .append, args := #[s, x], argTypes := #[t, t] })
    (N : Nat) (F : Nat → Value)
    {A C : Option Addr} {n c m cm B : Nat} {f g : Nat → Value} (hs : a.eval s = .slice A n c) (hx : a.eval x = .slice C m cm) (hown : Own w base e A n c f) (hr : Rd w B C m g) (h1 : ∀ i, i < m → (g i).oneCell' = true)
    (hN : N = n + m) (hF : ∀ i, i < N → catF n f g i = F i)
    (hbytes : N ≤ 9223372036854775807 ∧ N * bytes ≤ 140737488355328) (hbase : base ≤ w.heap.size)
    (h : ∀ A' c' w', Own w' base e A' N c' F → w.grownBy w' (A.map (·.block)) → (∀ ad, A' = some ad → some ad.block = A.map (·.block) ∨ ad.block = w.heap.size) → wpList P ops Q rest (a.put o.dst (.slice A' N c')) w') :
    wpList P ops Q (o :: rest) a w := by
 obtain ⟨i, hi, hz, hsize, hby⟩ := info_parts hinfo
 subst hN
 exact wpList_plain hgd fun _ hK => zph w s x t ho base e i z bytes ht hi hz hsize hby hzs hs hx hown hr h1 hbytes hbase fun A' c' w' h2 h3 h4 => hK _ _ (h A' c' w' (h2.congr hF) h3 h4)
end

theorem za4 {B : Nat} {a w w' : World} {A : Option Addr} (h : Below B a w) (hg : w.grownBy w' (A.map (·.block))) (hB : B ≤ w.heap.size) (hA : ∀ ad, A = some ad → B ≤ ad.block) : Below B a w' :=
 h.grown hg hB fun k hk => by
  cases A with
  | none => cases hk
  | some ad => injection hk with hk; subst hk; exact hA ad rfl
theorem Rd.one (w : World) (x : Value) (t : TypeId) : Rd (w.alloc (.cells #[x] t)) (w.heap.size + 1) (some ⟨w.heap.size, 0, none⟩) 1 (fun _ => x) := fun _ =>
 ⟨_, rfl, Nat.lt_succ_self _, fun i hi => by
  obtain rfl : i = 0 := by omega
  exact cell_one_new w x t 0 x rfl⟩

structure SF where
 F : Value → World → Prop
 st : ∀ v w w', F v w → Below w.heap.size w w' → F v w'
def sI (e : Value) : SF := ⟨fun v _ => v = e, fun _ _ _ h _ => h⟩
section
variable {P : Program}

def look (a0 : Act) : List (Tmp × SF) → Tmp → SF
  | [], s => sI (a0.tmps.getD s undef)
  | (d, F) :: E, s => if d = s then F else look a0 E s
def push (o : Oper) (F : SF) (E : List (Tmp × SF)) : List (Tmp × SF) := match o.dst with | some d => (d, F) :: E | none => E

def opOb (P : Program) (ops : Array Oper) (B : Nat) (w0 : World) (o : Oper) (F : SF) (lk : Tmp → SF) : Prop :=
 ∀ a w, Below B w0 w → (∀ s ∈ o.looksAt ops, (lk s).F (a.tmps.getD s undef) w) →
  if Region.wanted o (yielded ops a.tmps) = true then o.wp P a w (fun a' w' => ∃ v, a' = a.put o.dst v ∧ F.F v w' ∧ Below w.heap.size w w') (fun _ _ _ => False) else F.F undef w

def obs (P : Program) (ops : Array Oper) (B : Nat) (w0 : World) (a0 : Act) : List Oper → List SF → List (Tmp × SF) → Prop
  | [], [], _ => True
  | o :: os, F :: Fs, E => opOb P ops B w0 o F (look a0 E) ∧ obs P ops B w0 a0 os Fs (push o F E)
  | _, _, _ => False

def fin (Q : Act → World → Prop) : List Oper → List SF → Act → World → Prop
  | o :: os, F :: Fs, a, w => ∀ v, F.F v w → fin Q os Fs (a.put o.dst v) w
  | _, _, a, w => Q a w

def okR (n : Nat) (ops : Array Oper) : Bool :=
 Region.noSelect ops && (List.range ops.size).all fun i => match ops[i]? with
  | none => true
  | some oi =>
   oi.after.all (fun e => !Region.binds .any e || decide (e.on < i)) &&
   (match oi.dst with | some d => decide (d < n) && !(oi.looksAt ops).contains d | none => false) &&
   (List.range i).all fun j => match ops[j]? with
    | none => true
    | some oj =>
     (oi.after.any (fun e => Region.binds .any e && e.on == j) || ((match oj.dst with | some d => !(oi.looksAt ops).contains d | none => true) && (match oi.dst with | some d => !(oj.looksAt ops).contains d | none => true))) &&
     (match oj.dst, oi.dst with | some d, some d' => d != d' | _, _ => true)

structure OkR (n : Nat) (ops : Array Oper) : Prop where
 sel : Region.noSelect ops = true
 back : ∀ (i : Nat) oi, ops[i]? = some oi → ∀ e ∈ oi.after, Region.binds .any e = true → e.on < i
 room : ∀ (i : Nat) oi d, ops[i]? = some oi → oi.dst = some d → d < n
 has : ∀ (i : Nat) oi, ops[i]? = some oi → oi.dst ≠ none
 self : ∀ (i : Nat) oi d, ops[i]? = some oi → oi.dst = some d → d ∉ oi.looksAt ops
 two : ∀ (i j : Nat) oi oj, ops[i]? = some oi → ops[j]? = some oj → j < i → (∃ e ∈ oi.after, Region.binds .any e = true ∧ e.on = j) ∨ ((∀ d, oj.dst = some d → d ∉ oi.looksAt ops) ∧ (∀ d, oi.dst = some d → d ∉ oj.looksAt ops))
 dsts : ∀ (i j : Nat) oi oj d, ops[i]? = some oi → ops[j]? = some oj → oi.dst = some d → oj.dst = some d → i = j

theorem zgv {n : Nat} {ops : Array Oper} (h : okR n ops = true) : OkR n ops := by
 unfold okR at h
 rw [Bool.and_eq_true] at h
 obtain ⟨hs, h⟩ := h
 rw [List.all_eq_true] at h
 have hi : ∀ (i : Nat) oi, ops[i]? = some oi → _ := fun i oi ho => by
  have hlt : i < ops.size := (Array.getElem?_eq_some_iff.1 ho).1
  have := h i (List.mem_range.2 hlt)
  rw [ho] at this
  simp only [Bool.and_eq_true] at this
  exact this
 have hd : ∀ (i j : Nat) oi oj d, j < i → ops[i]? = some oi → ops[j]? = some oj → oi.dst = some d → oj.dst = some d → False := by
  intro i j oi oj d hji hoi hoj hdi hdj
  have h1 := (hi i oi hoi).2
  rw [List.all_eq_true] at h1
  have h2 := h1 j (List.mem_range.2 hji)
  rw [hoj] at h2
  simp [hdi, hdj] at h2
 refine ⟨hs, ?_, ?_, ?_, ?_, ?_, ?_⟩
 ·intro i oi ho e he hb
  have h1 := (hi i oi ho).1.1
  rw [Array.all_eq_true_iff_forall_mem] at h1
  have h2 := h1 e he
  simpa [hb] using h2
 ·intro i oi d ho hdd
  have h1 := (hi i oi ho).1.2
  simp [hdd] at h1
  exact h1.1
 ·intro i oi ho hdd
  have h1 := (hi i oi ho).1.2
  simp [hdd] at h1
 ·intro i oi d ho hdd
  have h1 := (hi i oi ho).1.2
  simp [hdd] at h1
  exact h1.2
 ·intro i j oi oj hoi hoj hji
  have h1 := (hi i oi hoi).2
  rw [List.all_eq_true] at h1
  have h2 := h1 j (List.mem_range.2 hji)
  rw [hoj] at h2
  simp only [Bool.and_eq_true, Bool.or_eq_true] at h2
  rcases h2.1 with h3 | h3
  ·rw [Array.any_eq_true] at h3
   obtain ⟨x, hx, h4⟩ := h3
   simp only [Bool.and_eq_true, beq_iff_eq] at h4
   exact .inl ⟨oi.after[x], Array.getElem_mem hx, h4⟩
  ·refine .inr ⟨fun d hdd => ?_, fun d hdd => ?_⟩
   ·have := h3.1; simpa [hdd] using this
   ·have := h3.2; simpa [hdd] using this
 ·intro i j oi oj d hoi hoj hdi hdj
  rcases Nat.lt_trichotomy i j with h1 | h1 | h1
  ·exact (hd j i oj oi d h1 hoj hoi hdj hdi).elim
  ·exact h1
  ·exact (hd i j oi oj d h1 hoi hoj hdi hdj).elim

theorem zjm {ops : Array Oper} {B : Nat} {w0 : World} {a0 : Act} {pre0 : List Oper} : ∀ (os : List Oper) (Fs : List SF) (E : List (Tmp × SF)) (pre : List Oper) (Fp : List SF),
 pre.length = Fp.length →
 (∀ s, (∃ (j : Nat) (o : Oper) (F : SF), pre[j]? = some o ∧ Fp[j]? = some F ∧ o.dst = some s ∧ look a0 E s = F) ∨ ((∀ o ∈ pre, o.dst ≠ some s) ∧ look a0 E s = sI (a0.tmps.getD s undef))) →
 obs P ops B w0 a0 os Fs E → os.length = Fs.length ∧ ∀ k o F, os[k]? = some o → Fs[k]? = some F → ∃ lk, opOb P ops B w0 o F lk ∧
  ∀ s, (∃ (j : Nat) (o' : Oper) (F' : SF), j < pre.length + k ∧ (pre ++ os)[j]? = some o' ∧ (Fp ++ Fs)[j]? = some F' ∧ o'.dst = some s ∧ lk s = F') ∨ ((∀ (j : Nat) (o' : Oper), j < pre.length + k → (pre ++ os)[j]? = some o' → o'.dst ≠ some s) ∧ lk s = sI (a0.tmps.getD s undef))
 | [], [], _, _, _, _, _, _ => ⟨rfl, fun k o F h => by simp at h⟩
 | [], _ :: _, _, _, _, _, _, h => h.elim
 | _ :: _, [], _, _, _, _, _, h => h.elim
 | o :: os, F :: Fs, E, pre, Fp, hl, hE, h => by
  obtain ⟨h1, h2⟩ := h
  have hE' : ∀ s, (∃ (j : Nat) (o' : Oper) (F' : SF), (pre ++ [o])[j]? = some o' ∧ (Fp ++ [F])[j]? = some F' ∧ o'.dst = some s ∧ look a0 (push o F E) s = F') ∨ ((∀ o' ∈ pre ++ [o], o'.dst ≠ some s) ∧ look a0 (push o F E) s = sI (a0.tmps.getD s undef)) := by
   intro s
   by_cases hd : o.dst = some s
   ·refine .inl ⟨pre.length, o, F, by simp, by simp [hl], hd, ?_⟩
    simp [push, hd, look]
   ·have hp : look a0 (push o F E) s = look a0 E s := by
     unfold push
     cases hdd : o.dst with
     | none => rfl
     | some d => simp only [look]; rw [if_neg (fun e => hd (by rw [hdd, e]))]
    rcases hE s with ⟨j, o', F', h3, h4, h5, h6⟩ | ⟨h3, h4⟩
    ·have hj := (List.getElem?_eq_some_iff.1 h3).1
     exact .inl ⟨j, o', F', by rw [List.getElem?_append_left hj]; exact h3, by rw [List.getElem?_append_left (by omega)]; exact h4, h5, by rw [hp]; exact h6⟩
    ·refine .inr ⟨fun o' ho' => ?_, by rw [hp]; exact h4⟩
     rcases List.mem_append.1 ho' with h5 | h5
     ·exact h3 o' h5
     ·simp at h5; subst h5; exact hd
  obtain ⟨hlen, hrest⟩ := zjm (pre0 := pre0) os Fs (push o F E) (pre ++ [o]) (Fp ++ [F]) (by simp [hl]) hE' h2
  refine ⟨by simp [hlen], fun k ok Fk hk hF => ?_⟩
  cases k with
  | zero =>
   simp only [List.getElem?_cons_zero, Option.some.injEq] at hk hF
   subst hk hF
   refine ⟨look a0 E, h1, fun s => ?_⟩
   rcases hE s with ⟨j, o', F', h3, h4, h5, h6⟩ | ⟨h3, h4⟩
   ·have hj := (List.getElem?_eq_some_iff.1 h3).1
    exact .inl ⟨j, o', F', by omega, by rw [List.getElem?_append_left hj]; exact h3, by rw [List.getElem?_append_left (by omega)]; exact h4, h5, h6⟩
   ·refine .inr ⟨fun j o' hj ho' => ?_, h4⟩
    rw [List.getElem?_append_left (by omega)] at ho'
    exact h3 o' (List.mem_of_getElem? ho')
  | succ k =>
   simp only [List.getElem?_cons_succ] at hk hF
   obtain ⟨lk, h3, h4⟩ := hrest k ok Fk hk hF
   refine ⟨lk, h3, fun s => ?_⟩
   have e1 : pre ++ [o] ++ os = pre ++ o :: os := by simp
   have e2 : Fp ++ [F] ++ Fs = Fp ++ F :: Fs := by simp
   have e3 : (pre ++ [o]).length + k = pre.length + (k + 1) := by simp; omega
   have h5 := h4 s
   rw [e1, e2, e3] at h5
   exact h5

theorem Oper.wp_safe {o : Oper} {a : Act} {w : World} {K : Act → World → Prop} {Q : Exit → Act → World → Prop} (hh : o.wp P a w K (fun _ _ _ => False)) : o.wp P a w K Q := by
 unfold Oper.wp at *
 generalize (execOp a.eval o).run P w = r at *
 cases r with
 | ok n w' =>
  cases n <;> simp only [Oper.upon] at hh ⊢ <;>
    first
     | exact hh
     | exact Calls.mono hh (fun e w'' he => by
      cases e with
      | returned v => exact he
      | panicked c => exact he.elim
      | outgrown => obtain ⟨_, _, h⟩ := he; exact h.elim)
 | halt x w' => cases x <;> simp only [Oper.upon] at hh ⊢ <;> exact hh.elim

structure RInv (n : Nat) (l : List Oper) (Fs : List SF) (B : Nat) (w0 : World) (a0 : Act) (listed : Array Bool) (a : Act) (w : World) : Prop where
 bel : Below B w0 w
 tsz : a.tmps.size = n
 dfs : a.defers = a0.defers
 lsz : listed.size = l.length
 fact : ∀ (j : Nat) o F, l[j]? = some o → Fs[j]? = some F → listed.getD j false = true → F.F (match o.dst with | some d => a.tmps.getD d undef | none => undef) w
 rest : ∀ d, (∀ (j : Nat) o, l[j]? = some o → listed.getD j false = true → o.dst ≠ some d) → a.tmps.getD d undef = a0.tmps.getD d undef
 down : ∀ (j : Nat) o, l[j]? = some o → listed.getD j false = true → ∀ e ∈ o.after, Region.binds .any e = true → listed.getD e.on false = true

theorem zbs (a : Act) (dst : Option Tmp) (v : Value) (d : Tmp) (hd : ∀ t, dst = some t → t < a.tmps.size) : (a.put dst v).tmps.getD d undef = if dst = some d then v else a.tmps.getD d undef := by
 cases dst with
 | none => simp [Act.put]
 | some t =>
  have := hd t rfl
  simp only [Act.put, Option.some.injEq]
  by_cases e : t = d
  ·subst e; simp [Array.getD, this]
  ·rw [if_neg e]
   unfold Array.getD
   by_cases hds : d < a.tmps.size
   ·simp only [Array.size_setIfInBounds, hds, dif_pos]
    show (a.tmps.setIfInBounds t v)[d]'(by simpa using hds) = a.tmps[d]
    rw [Array.getElem_setIfInBounds_ne _ (by omega)]
   ·simp [hds]

theorem zfv {Q : Act → World → Prop} {w : World} {a : Act} : ∀ (os : List Oper) (Fs : List SF) (b : Act), os.length = Fs.length → fin Q os Fs b w →
 (∀ (j : Nat) o F, os[j]? = some o → Fs[j]? = some F → F.F (match o.dst with | some d => a.tmps.getD d undef | none => undef) w) → b.tmps.size = a.tmps.size → b.defers = a.defers →
 (∀ d, (∀ (j : Nat) o, os[j]? = some o → o.dst ≠ some d) → b.tmps.getD d undef = a.tmps.getD d undef) →
 (∀ (j : Nat) o d, os[j]? = some o → o.dst = some d → d < a.tmps.size) → Q a w
 | [], [], b, _, h, _, hs, hdf, hr, _ => by
  have : b = a := by
   obtain ⟨bt, bd⟩ := b
   obtain ⟨at_, ad⟩ := a
   simp only at hs hdf hr
   subst hdf
   congr
   apply Array.ext hs
   intro i h1 h2
   have := hr i (by simp)
   simpa [Array.getD, h1, h2] using this
  rw [← this]; exact h
 | [], _ :: _, _, hl, _, _, _, _, _, _ => by simp at hl
 | _ :: _, [], _, hl, _, _, _, _, _, _ => by simp at hl
 | o :: os, F :: Fs, b, hl, h, hF, hs, hdf, hr, hroom => by
  have hlt : ∀ t, o.dst = some t → t < b.tmps.size := fun t ht => by rw [hs]; exact hroom 0 o t rfl ht
  refine zfv os Fs (b.put o.dst (match o.dst with | some d => a.tmps.getD d undef | none => undef)) (by simpa using hl) (h _ (hF 0 o F rfl rfl)) (fun j o' F' h1 h2 => hF (j + 1) o' F' h1 h2) ?_ ?_ ?_ (fun j o' d h1 h2 => hroom (j + 1) o' d h1 h2)
  ·rw [← hs]; cases o.dst <;> simp [Act.put]
  ·rw [← hdf]; cases o.dst <;> simp [Act.put]
  ·intro d hd
   rw [zbs _ _ _ _ hlt]
   by_cases e : o.dst = some d
   ·rw [if_pos e]; simp [e]
   ·rw [if_neg e]
    refine hr d (fun j o' hj => ?_)
    cases j with
    | zero => simp at hj; subst hj; exact e
    | succ j => exact hd j o' hj

theorem znh {l : List Oper} {Fs : List SF} {n B : Nat} {w0 : World} {a0 : Act} {Q : Exit → Act → World → Prop} (hok : OkR n l.toArray) (hlen : l.length = Fs.length) (hB : B ≤ w0.heap.size)
    (hob : ∀ (k : Nat) o F, l[k]? = some o → Fs[k]? = some F → ∃ lk, opOb P l.toArray B w0 o F lk ∧
     ∀ s, (∃ (j : Nat) (o' : Oper) (F' : SF), j < k ∧ l[j]? = some o' ∧ Fs[j]? = some F' ∧ o'.dst = some s ∧ lk s = F') ∨ ((∀ (j : Nat) (o' : Oper), j < k → l[j]? = some o' → o'.dst ≠ some s) ∧ lk s = sI (a0.tmps.getD s undef)))
    (hsz : a0.tmps.size = n) (hfin : ∀ w, Below B w0 w → fin (Q .normal) l Fs a0 w) :
    ∀ (fuel : Nat) (listed : Array Bool) (a : Act) (w : World), (∃ u : List Nat, u.Nodup ∧ (∀ i, i ∈ u ↔ i < l.length ∧ listed.getD i false = false) ∧ u.length ≤ fuel) →
     RInv n l Fs B w0 a0 listed a w → wpAny P .any l.toArray Q fuel listed a w := by
 have ho : ∀ (i : Nat), l.toArray[i]? = l[i]? := fun i => by simp
 have hend : ∀ (listed : Array Bool) (a : Act) (w : World), RInv n l Fs B w0 a0 listed a w → (∀ i, i < l.length → listed.getD i false = true) → Q .normal a w := by
  intro listed a w hI hall
  refine zfv l Fs a0 hlen (hfin w hI.bel) (fun j o F h1 h2 => hI.fact j o F h1 h2 (hall j (List.getElem?_eq_some_iff.1 h1).1)) (hsz.trans hI.tsz.symm) hI.dfs.symm ?_ (fun j o d h1 h2 => by rw [hI.tsz]; exact hok.room j o d (by rw [ho]; exact h1) h2)
  intro d hd
  exact (hI.rest d (fun j o h1 _ => hd j o h1)).symm
 have hnoneReady : ∀ (listed : Array Bool), listed.size = l.length → Region.ready .any l.toArray listed = [] → ∀ i, i < l.length → listed.getD i false = true := by
  intro listed hls hr i
  induction i using Nat.strongRecOn with
  | ind i ih =>
   intro hi
   cases hc : listed.getD i false with
   | true => rfl
   | false =>
    exfalso
    have hil : i < listed.size := by omega
    have : i ∈ Region.ready .any l.toArray listed := mem_ready.2 ⟨by simpa [Array.getD, hil] using hc, l[i], by simp [hi], fun e he hb => ih e.on (hok.back i l[i] (by simp [hi]) e he hb) (by have := hok.back i l[i] (by simp [hi]) e he hb; omega)⟩
    rw [hr] at this; cases this
 intro fuel
 induction fuel with
 | zero =>
  intro listed a w ⟨u, _, hu, hul⟩ hI
  have hun : u = [] := List.eq_nil_of_length_eq_zero (by omega)
  subst hun
  have hall : ∀ i, i < l.length → listed.getD i false = true := fun i hi => by
   cases hc : listed.getD i false with
   | true => rfl
   | false => exact absurd ((hu i).2 ⟨hi, hc⟩) (by simp)
  refine ⟨?_, hend listed a w hI hall⟩
  rw [List.eq_nil_iff_forall_not_mem]
  intro i hi
  obtain ⟨h1, o, h2, _⟩ := mem_ready.1 hi
  have hil : i < l.length := by have := (Array.getElem?_eq_some_iff.1 h2).1; simpa using this
  have h3 := hall i hil
  have hls : i < listed.size := by rw [hI.lsz]; exact hil
  simp [Array.getD, hls] at h1 h3
  rw [h1] at h3; cases h3
 | succ fuel ih =>
  intro listed a w ⟨u, hnd, hu, hul⟩ hI
  refine ⟨fun hr => hend listed a w hI (hnoneReady listed hI.lsz hr), fun i hi => ?_⟩
  obtain ⟨h1, o, h2, h3⟩ := mem_ready.1 hi
  have hil : i < l.length := by have := (Array.getElem?_eq_some_iff.1 h2).1; simpa using this
  have hls : i < listed.size := by rw [hI.lsz]; exact hil
  have hf : listed.getD i false = false := by simpa [Array.getD, hls] using h1
  have h2' : l[i]? = some o := by rw [← ho]; exact h2
  obtain ⟨F, hF⟩ : ∃ F, Fs[i]? = some F := ⟨Fs[i]'(by omega), by simp [show i < Fs.length by omega]⟩
  obtain ⟨lk, hop, hlk⟩ := hob i o F h2' hF
  have hfacts : ∀ s ∈ o.looksAt l.toArray, (lk s).F (a.tmps.getD s undef) w := by
   intro s hs
   rcases hlk s with ⟨j, o', F', hj, hoj, hFj, hd, e⟩ | ⟨hno, e⟩
   ·rw [e]
    have hlst : listed.getD j false = true := by
     rcases hok.two i j o o' h2 (by rw [ho]; exact hoj) hj with ⟨ed, he, hb, hon⟩ | ⟨h4, _⟩
     ·rw [← hon]; exact h3 ed he hb
     ·exact absurd hs (h4 s hd)
    have := hI.fact j o' F' hoj hFj hlst
    simpa [hd] using this
   ·rw [e]
    refine hI.rest s (fun j o' hoj hl hd => ?_)
    rcases Nat.lt_trichotomy j i with hji | hji | hji
    ·exact hno j o' hji hoj hd
    ·subst hji; rw [hf] at hl; cases hl
    ·rcases hok.two j i o' o (by rw [ho]; exact hoj) h2 hji with ⟨ed, he, hb, hon⟩ | ⟨_, h4⟩
     ·have := hI.down j o' hoj hl ed he hb
      rw [hon, hf] at this; cases this
     ·exact h4 s hd hs
  have hstep : ∀ v w', F.F v w' → Below w.heap.size w w' → wpAny P .any l.toArray Q fuel (listed.setIfInBounds i true) (a.put o.dst v) w' := by
   intro v w' hFv hbel
   have hroom : ∀ t, o.dst = some t → t < a.tmps.size := fun t ht => by rw [hI.tsz]; exact hok.room i o t h2 ht
   refine ih _ _ _ ⟨u.erase i, hnd.erase i, fun k => ?_, ?_⟩ ?_
   ·rw [hnd.mem_erase_iff, hu k]
    constructor
    ·rintro ⟨hki, hkl, hkf⟩
     exact ⟨hkl, by rw [getD_set_ne false (Ne.symm hki)]; exact hkf⟩
    ·rintro ⟨hkl, hkf⟩
     have hki : k ≠ i := by
      rintro rfl
      simp [Array.getD, hls] at hkf
     exact ⟨hki, hkl, by rw [getD_set_ne false (Ne.symm hki)] at hkf; exact hkf⟩
   ·have : i ∈ u := (hu i).2 ⟨hil, hf⟩
    rw [List.length_erase_of_mem this]; omega
   ·have hset : ∀ j, (listed.setIfInBounds i true).getD j false = true → j = i ∨ listed.getD j false = true := fun j hj => by
     by_cases e : j = i
     ·exact .inl e
     ·rw [getD_set_ne false (Ne.symm e)] at hj; exact .inr hj
    refine ⟨hI.bel.trans (hbel.mono (lT hB hI.bel.size)), ?_, ?_, by simpa using hI.lsz, ?_, ?_, ?_⟩
    ·rw [← hI.tsz]; cases o.dst <;> simp [Act.put]
    ·rw [← hI.dfs]; cases o.dst <;> simp [Act.put]
    ·intro j oj Fj hoj hFj hlj
     by_cases e : j = i
     ·subst e
      rw [h2'] at hoj; injection hoj with hoj; subst hoj
      rw [hF] at hFj; injection hFj with hFj; subst hFj
      cases hd : o.dst with
      | none => exact (hok.has j o h2 hd).elim
      | some d => simp only []; rw [zbs _ _ _ _ (by rw [← hd]; exact hroom)]; simpa using hFv
     ·have hl' := (hset j hlj).resolve_left e
      have h5 := Fj.st _ _ _ (hI.fact j oj Fj hoj hFj hl') hbel
      cases hd : oj.dst with
      | none => simpa [hd] using h5
      | some d =>
       simp only [hd] at h5 ⊢
       rw [zbs _ _ _ _ hroom, if_neg (fun h6 => e (hok.dsts j i oj o d (by rw [ho]; exact hoj) h2 hd h6))]
       exact h5
    ·intro d hd
     have hne : o.dst ≠ some d := hd i o h2' (by simp [Array.getD, hls])
     rw [zbs _ _ _ _ hroom, if_neg hne]
     refine hI.rest d (fun j oj hoj hl => hd j oj hoj ?_)
     by_cases e : j = i
     ·subst e; simp [Array.getD, hls]
     ·rw [getD_set_ne false (Ne.symm e)]; exact hl
    ·intro j oj hoj hlj e he hb
     have key : listed.getD e.on false = true := by
      rcases hset j hlj with h4 | h4
      ·subst h4
       rw [h2'] at hoj; injection hoj with hoj; subst hoj
       exact h3 e he hb
      ·exact hI.down j oj hoj h4 e he hb
     have hne : e.on ≠ i := fun h => by rw [h, hf] at key; cases key
     rw [getD_set_ne false (Ne.symm hne)]; exact key
  have hthis := hop a w hI.bel hfacts
  unfold wpOp
  rw [h2]
  simp only []
  split
  ·rename_i hw
   rw [if_pos hw] at hthis
   left
   refine Oper.wp_safe ?_
   have h5 := Oper.wp_mono (K' := wpAny P .any l.toArray Q fuel (listed.setIfInBounds i true)) (fun a' w' ⟨v, e, h6, h7⟩ => by rw [e]; exact hstep v w' h6 h7) hthis
   exact h5
  ·rename_i hw
   rw [if_neg hw] at hthis
   exact hstep undef w hthis (Below.refl _ _)

structure RInvT (n : Nat) (l : List Oper) (Fs : List SF) (B : Nat) (w0 : World) (a0 : Act) (listed : Array Bool) (a : Act) (w : World) : Prop where
 bel : Below B w0 w
 tsz : a.tmps.size = n
 dfs : a.defers = a0.defers
 lsz : listed.size = l.length + 1
 fact : ∀ (j : Nat) o F, l[j]? = some o → Fs[j]? = some F → listed.getD j false = true → F.F (match o.dst with | some d => a.tmps.getD d undef | none => undef) w
 rest : ∀ d, (∀ (j : Nat) o, l[j]? = some o → listed.getD j false = true → o.dst ≠ some d) → a.tmps.getD d undef = a0.tmps.getD d undef
 down : ∀ (j : Nat) o, l[j]? = some o → listed.getD j false = true → ∀ e ∈ o.after, Region.binds .any e = true → listed.getD e.on false = true

def okT (n : Nat) (l : List Oper) (ol : Oper) : Bool :=
 okR n l.toArray && ol.guard.isNone && ol.after.all (fun e => !Region.binds .any e || decide (e.on < l.length)) && (List.range l.length).all (fun i => (ol.after.any fun e => Region.binds .any e && e.on == i) || (List.range l.length).any (fun k => decide (i < k) && match l[k]? with | some ok => ok.after.any (fun e => Region.binds .any e && e.on == i) | none => false)) &&
   l.all (fun o => match o.guard with | some (j, _) => decide (j < l.length) | none => true) && (match ol.op with | .select .. => false | _ => true)
structure OkT (n : Nat) (l : List Oper) (ol : Oper) : Prop where
 back : ∀ (i : Nat) oi, l[i]? = some oi → ∀ e ∈ oi.after, Region.binds .any e = true → e.on < i
 room : ∀ (i : Nat) oi d, l[i]? = some oi → oi.dst = some d → d < n
 has : ∀ (i : Nat) oi, l[i]? = some oi → oi.dst ≠ none
 two : ∀ (i j : Nat) oi oj, l[i]? = some oi → l[j]? = some oj → j < i → (∃ e ∈ oi.after, Region.binds .any e = true ∧ e.on = j) ∨ ((∀ d, oj.dst = some d → d ∉ oi.looksAt (l ++ [ol]).toArray) ∧ (∀ d, oi.dst = some d → d ∉ oj.looksAt (l ++ [ol]).toArray))
 dsts : ∀ (i j : Nat) oi oj d, l[i]? = some oi → l[j]? = some oj → oi.dst = some d → oj.dst = some d → i = j
 lastGuard : ol.guard = none
 lastBack : ∀ e ∈ ol.after, Region.binds .any e = true → e.on < l.length
 lastAll : ∀ j, j < l.length → (∃ e ∈ ol.after, Region.binds .any e = true ∧ e.on = j) ∨ ∃ k ok, j < k ∧ l[k]? = some ok ∧ ∃ e ∈ ok.after, Region.binds .any e = true ∧ e.on = j
theorem zhn {l : List Oper} {ol o : Oper} (ho : o ∈ l) (hg : l.all (fun o => match o.guard with | some (j, _) => decide (j < l.length) | none => true) = true) : o.looksAt (l ++ [ol]).toArray = o.looksAt l.toArray := by
 unfold Oper.looksAt
 congr 1
 have h := List.all_eq_true.1 hg o ho
 cases hgd : o.guard with
 | none => rfl
 | some p =>
  obtain ⟨j, b⟩ := p
  simp only [hgd, decide_eq_true_eq] at h
  simp [List.getElem?_append_left h]
theorem zlv {n : Nat} {l : List Oper} {ol : Oper} (h : okT n l ol = true) : OkT n l ol := by
 unfold okT at h
 simp only [Bool.and_eq_true] at h
 obtain ⟨⟨⟨⟨⟨h1, h2⟩, h3⟩, h4⟩, h5⟩, h6⟩ := h
 have hr := zgv h1
 have hm : ∀ (i : Nat) oi, l[i]? = some oi → l.toArray[i]? = some oi := fun i oi h => by simpa using h
 refine ⟨fun i oi h => hr.back i oi (hm i oi h), fun i oi d h => hr.room i oi d (hm i oi h), fun i oi h => hr.has i oi (hm i oi h), ?_, fun i j oi oj d h k => hr.dsts i j oi oj d (hm i oi h) (hm j oj k), by simpa using h2, ?_, ?_⟩
 ·intro i j oi oj hi hj hji
  rw [zhn (List.mem_of_getElem? hi) h5, zhn (List.mem_of_getElem? hj) h5]
  exact hr.two i j oi oj (hm i oi hi) (hm j oj hj) hji
 ·intro e he hb
  rw [Array.all_eq_true_iff_forall_mem] at h3
  simpa [hb] using h3 e he
 ·intro j hj
  rw [List.all_eq_true] at h4
  have := h4 j (List.mem_range.2 hj)
  rw [Bool.or_eq_true] at this
  rcases this with this | this
  ·rw [Array.any_eq_true] at this
   obtain ⟨x, hx, h7⟩ := this
   simp only [Bool.and_eq_true, beq_iff_eq] at h7
   exact .inl ⟨ol.after[x], Array.getElem_mem hx, h7⟩
  ·rw [List.any_eq_true] at this
   obtain ⟨k, _, h8⟩ := this
   simp only [Bool.and_eq_true, decide_eq_true_eq] at h8
   obtain ⟨hjk, h9⟩ := h8
   cases hk : l[k]? with
   | none => rw [hk] at h9; cases h9
   | some ok =>
    rw [hk] at h9
    simp only [] at h9
    rw [Array.any_eq_true] at h9
    obtain ⟨x, hx, h7⟩ := h9
    simp only [Bool.and_eq_true, beq_iff_eq] at h7
    exact .inr ⟨k, ok, hjk, hk, ok.after[x], Array.getElem_mem hx, h7⟩
theorem zlw {l : List Oper} {ol : Oper} {Fs : List SF} {n B : Nat} {w0 : World} {a0 : Act} {Q : Exit → Act → World → Prop} (hok : OkT n l ol) (hlen : l.length = Fs.length) (hB : B ≤ w0.heap.size)
    (hob : ∀ (k : Nat) o F, l[k]? = some o → Fs[k]? = some F → ∃ lk, opOb P (l ++ [ol]).toArray B w0 o F lk ∧
     ∀ s, (∃ (j : Nat) (o' : Oper) (F' : SF), j < k ∧ l[j]? = some o' ∧ Fs[j]? = some F' ∧ o'.dst = some s ∧ lk s = F') ∨ ((∀ (j : Nat) (o' : Oper), j < k → l[j]? = some o' → o'.dst ≠ some s) ∧ lk s = sI (a0.tmps.getD s undef)))
    (hsz : a0.tmps.size = n) (hfin : ∀ w, Below B w0 w → fin (fun a w => ol.wp P a w (Q .normal) Q) l Fs a0 w) :
    ∀ (fuel : Nat) (listed : Array Bool) (a : Act) (w : World), (∃ u : List Nat, u.Nodup ∧ (∀ i, i ∈ u ↔ i < l.length ∧ listed.getD i false = false) ∧ u.length < fuel) →
     RInvT n l Fs B w0 a0 listed a w → listed.getD l.length false = false → wpAny P .any (l ++ [ol]).toArray Q fuel listed a w := by
 have ho : ∀ (i : Nat), i < l.length → (l ++ [ol]).toArray[i]? = l[i]? := fun i hi => by simp [List.getElem?_append_left hi]
 have hol : (l ++ [ol]).toArray[l.length]? = some ol := by simp
 have hend : ∀ (listed : Array Bool) (a : Act) (w : World), RInvT n l Fs B w0 a0 listed a w → (∀ i, i < l.length → listed.getD i false = true) → ol.wp P a w (Q .normal) Q := by
  intro listed a w hI hall
  refine zfv l Fs a0 hlen (hfin w hI.bel) (fun j o F h1 h2 => hI.fact j o F h1 h2 (hall j (List.getElem?_eq_some_iff.1 h1).1)) (hsz.trans hI.tsz.symm) hI.dfs.symm ?_ (fun j o d h1 h2 => by rw [hI.tsz]; exact hok.room j o d h1 h2)
  intro d hd
  exact (hI.rest d (fun j o h1 _ => hd j o h1)).symm
 have hone : ∀ (listed : Array Bool), listed.size = l.length + 1 → (∀ i, i ∈ Region.ready .any (l ++ [ol]).toArray listed → i = l.length) → listed.getD l.length false = false → ∀ i, i < l.length → listed.getD i false = true := by
  intro listed hls hr _ i
  induction i using Nat.strongRecOn with
  | ind i ih =>
   intro hi
   cases hc : listed.getD i false with
   | true => rfl
   | false =>
    exfalso
    have hil : i < listed.size := by omega
    have h1 : i ∈ Region.ready .any (l ++ [ol]).toArray listed := mem_ready.2 ⟨by simpa [Array.getD, hil] using hc, l[i], by rw [ho i hi]; simp [hi], fun e he hb => ih e.on (hok.back i l[i] (by simp [hi]) e he hb) (by have := hok.back i l[i] (by simp [hi]) e he hb; omega)⟩
    have := hr i h1; omega
 intro fuel
 induction fuel with
 | zero =>
  intro listed a w ⟨u, _, hu, hul⟩
  omega
 | succ fuel ih =>
  intro listed a w ⟨u, hnd, hu, hul⟩ hI hlast
  have hsz2 : listed.size = l.length + 1 := hI.lsz
  refine ⟨fun hr => ?_, fun i hi => ?_⟩
  ·exfalso
   have hall := hone listed hsz2 (fun i hi => by rw [hr] at hi; cases hi) hlast
   have : l.length ∈ Region.ready .any (l ++ [ol]).toArray listed := mem_ready.2 ⟨by simpa [Array.getD, hsz2] using hlast, ol, hol, fun e he hb => hall e.on (hok.lastBack e he hb)⟩
   rw [hr] at this; cases this
  obtain ⟨h1, o, h2, h3⟩ := mem_ready.1 hi
  by_cases hil : i < l.length
  case neg =>
   have hi2 : i < (l ++ [ol]).toArray.size := (Array.getElem?_eq_some_iff.1 h2).1
   have hil2 : i = l.length := by simp at hi2; omega
   subst hil2
   rw [hol] at h2; injection h2 with h2; subst h2
   have hall0 : ∀ d j, l.length - j = d → j < l.length → listed.getD j false = true := by
    intro d
    induction d using Nat.strongRecOn with
    | ind d ihd =>
     intro j hd hj
     rcases hok.lastAll j hj with ⟨e, he, hb, hon⟩ | ⟨k, ok, hjk, hk, e, he, hb, hon⟩
     ·rw [← hon]; exact h3 e he hb
     ·have hkl : k < l.length := (List.getElem?_eq_some_iff.1 hk).1
      rw [← hon]; exact hI.down k ok hk (ihd (l.length - k) (by omega) k rfl hkl) e he hb
   have hall : ∀ j, j < l.length → listed.getD j false = true := fun j hj => hall0 _ j rfl hj
   have hQ := hend listed a w hI hall
   unfold wpOp
   rw [hol]
   simp only []
   rw [if_pos (by simp [Region.wanted, hok.lastGuard])]
   left
   refine Oper.wp_mono (fun a' w' hq => ?_) hQ
   have hr0 : Region.ready .any (l ++ [ol]).toArray (listed.setIfInBounds l.length true) = [] := by
    rw [List.eq_nil_iff_forall_not_mem]
    intro k hk
    obtain ⟨hk1, ok, hk2, _⟩ := mem_ready.1 hk
    have hk3 : k < (l ++ [ol]).toArray.size := (Array.getElem?_eq_some_iff.1 hk2).1
    have hk4 : k < l.length + 1 := by simpa using hk3
    by_cases e : k = l.length
    ·subst e; simp [Array.getD, hsz2] at hk1
    ·have := hall k (by omega)
     rw [getD_set_ne true (Ne.symm e)] at hk1
     have hks : k < listed.size := by omega
     simp [Array.getD, hks] at hk1 this
     rw [hk1] at this; cases this
   cases fuel with
   | zero => exact ⟨hr0, hq⟩
   | succ f => exact ⟨fun _ => hq, fun k hk => by rw [hr0] at hk; cases hk⟩
  have hls : i < listed.size := by omega
  have hf : listed.getD i false = false := by simpa [Array.getD, hls] using h1
  have h2' : l[i]? = some o := by rw [← ho i hil]; exact h2
  obtain ⟨F, hF⟩ : ∃ F, Fs[i]? = some F := ⟨Fs[i]'(by omega), by simp [show i < Fs.length by omega]⟩
  obtain ⟨lk, hop, hlk⟩ := hob i o F h2' hF
  have hfacts : ∀ s ∈ o.looksAt (l ++ [ol]).toArray, (lk s).F (a.tmps.getD s undef) w := by
   intro s hs
   rcases hlk s with ⟨j, o', F', hj, hoj, hFj, hd, e⟩ | ⟨hno, e⟩
   ·rw [e]
    have hlst : listed.getD j false = true := by
     rcases hok.two i j o o' h2' hoj hj with ⟨ed, he, hb, hon⟩ | ⟨h4, _⟩
     ·rw [← hon]; exact h3 ed he hb
     ·exact absurd hs (h4 s hd)
    have := hI.fact j o' F' hoj hFj hlst
    simpa [hd] using this
   ·rw [e]
    refine hI.rest s (fun j o' hoj hl hd => ?_)
    rcases Nat.lt_trichotomy j i with hji | hji | hji
    ·exact hno j o' hji hoj hd
    ·subst hji; rw [hf] at hl; cases hl
    ·rcases hok.two j i o' o hoj h2' hji with ⟨ed, he, hb, hon⟩ | ⟨_, h4⟩
     ·have := hI.down j o' hoj hl ed he hb
      rw [hon, hf] at this; cases this
     ·exact h4 s hd hs
  have hstep : ∀ v w', F.F v w' → Below w.heap.size w w' → wpAny P .any (l ++ [ol]).toArray Q fuel (listed.setIfInBounds i true) (a.put o.dst v) w' := by
   intro v w' hFv hbel
   have hroom : ∀ t, o.dst = some t → t < a.tmps.size := fun t ht => by rw [hI.tsz]; exact hok.room i o t h2' ht
   refine ih _ _ _ ⟨u.erase i, hnd.erase i, fun k => ?_, ?_⟩ ?_ (by rw [getD_set_ne false (show i ≠ l.length by omega)]; exact hlast)
   ·rw [hnd.mem_erase_iff, hu k]
    constructor
    ·rintro ⟨hki, hkl, hkf⟩
     exact ⟨hkl, by rw [getD_set_ne false (Ne.symm hki)]; exact hkf⟩
    ·rintro ⟨hkl, hkf⟩
     have hki : k ≠ i := by
      rintro rfl
      simp [Array.getD, hls] at hkf
     exact ⟨hki, hkl, by rw [getD_set_ne false (Ne.symm hki)] at hkf; exact hkf⟩
   ·have hiu : i ∈ u := (hu i).2 ⟨hil, hf⟩
    have := List.length_pos_of_mem hiu
    rw [List.length_erase_of_mem hiu]; omega
   ·have hset : ∀ j, (listed.setIfInBounds i true).getD j false = true → j = i ∨ listed.getD j false = true := fun j hj => by
     by_cases e : j = i
     ·exact .inl e
     ·rw [getD_set_ne false (Ne.symm e)] at hj; exact .inr hj
    refine ⟨hI.bel.trans (hbel.mono (lT hB hI.bel.size)), ?_, ?_, by simpa using hI.lsz, ?_, ?_, ?_⟩
    ·rw [← hI.tsz]; cases o.dst <;> simp [Act.put]
    ·rw [← hI.dfs]; cases o.dst <;> simp [Act.put]
    ·intro j oj Fj hoj hFj hlj
     by_cases e : j = i
     ·subst e
      rw [h2'] at hoj; injection hoj with hoj; subst hoj
      rw [hF] at hFj; injection hFj with hFj; subst hFj
      cases hd : o.dst with
      | none => exact (hok.has j o h2' hd).elim
      | some d => simp only []; rw [zbs _ _ _ _ (by rw [← hd]; exact hroom)]; simpa using hFv
     ·have hl' := (hset j hlj).resolve_left e
      have h5 := Fj.st _ _ _ (hI.fact j oj Fj hoj hFj hl') hbel
      cases hd : oj.dst with
      | none => simpa [hd] using h5
      | some d =>
       simp only [hd] at h5 ⊢
       rw [zbs _ _ _ _ hroom, if_neg (fun h6 => e (hok.dsts j i oj o d hoj h2' hd h6))]
       exact h5
    ·intro d hd
     have hne : o.dst ≠ some d := hd i o h2' (by simp [Array.getD, hls])
     rw [zbs _ _ _ _ hroom, if_neg hne]
     refine hI.rest d (fun j oj hoj hl => hd j oj hoj ?_)
     by_cases e : j = i
     ·subst e; simp [Array.getD, hls]
     ·rw [getD_set_ne false (Ne.symm e)]; exact hl
    ·intro j oj hoj hlj e he hb
     have key : listed.getD e.on false = true := by
      rcases hset j hlj with h4 | h4
      ·subst h4
       rw [h2'] at hoj; injection hoj with hoj; subst hoj
       exact h3 e he hb
      ·exact hI.down j oj hoj h4 e he hb
     have hne : e.on ≠ i := fun h => by rw [h, hf] at key; cases key
     rw [getD_set_ne false (Ne.symm hne)]; exact key
  have hthis := hop a w hI.bel hfacts
  unfold wpOp
  rw [h2]
  simp only []
  split
  ·rename_i hw
   rw [if_pos hw] at hthis
   left
   refine Oper.wp_safe ?_
   have h5 := Oper.wp_mono (K' := wpAny P .any (l ++ [ol]).toArray Q fuel (listed.setIfInBounds i true)) (fun a' w' ⟨v, e, h6, h7⟩ => by rw [e]; exact hstep v w' h6 h7) hthis
   exact h5
  ·rename_i hw
   rw [if_neg hw] at hthis
   exact hstep undef w hthis (Below.refl _ _)

theorem zb3 {id n B : Nat} {l : List Oper} (Fs : List SF) {Q : Exit → Act → World → Prop} {a : Act} {w w0 : World} (hm : P.follows .mixedOrders = true) (hok : okR n l.toArray = true) (hsz : a.tmps.size = n)
    (hB : B ≤ w0.heap.size) (hbel : Below B w0 w) (hob : obs P l.toArray B w0 a l Fs []) (hfin : ∀ w', Below B w0 w' → fin (Q .normal) l Fs a w') : (Code.region id l.toArray true).wp P Q a w := by
 have h1 := zjm (pre0 := []) (P := P) (B := B) l Fs [] [] [] rfl (fun s => .inr ⟨by simp, rfl⟩) hob
 refine wp_region_any hm (znh (zgv hok) h1.1 hB (fun k o F h2 h3 => ?_) hsz hfin _ _ a _ ⟨List.range l.length, List.nodup_range, fun i => ?_, by simp⟩ ⟨?_, hsz, rfl, by simp, ?_, fun _ _ => rfl, ?_⟩)
 ·obtain ⟨lk, h4, h5⟩ := h1.2 k o F h2 h3
  refine ⟨lk, h4, fun s => ?_⟩
  simpa using h5 s
 ·simp [Array.getD]
 ·exact hbel.drew
 ·intro j o F h2 h3 h4
  simp [Array.getD] at h4
 ·intro j o h2 h4
  simp [Array.getD] at h4

theorem zc7 {id n B : Nat} {l : List Oper} {ol : Oper} (Fs : List SF) {Q : Exit → Act → World → Prop} {a : Act} {w w0 : World} (hm : P.follows .mixedOrders = true) (hok : okT n l ol = true) (hsz : a.tmps.size = n)
    (hB : B ≤ w0.heap.size) (hbel : Below B w0 w) (hob : obs P (l ++ [ol]).toArray B w0 a l Fs []) (hfin : ∀ w', Below B w0 w' → fin (fun a w => ol.wp P a w (Q .normal) Q) l Fs a w') : (Code.region id (l ++ [ol]).toArray true).wp P Q a w := by
 have h1 := zjm (pre0 := []) (P := P) (B := B) l Fs [] [] [] rfl (fun s => .inr ⟨by simp, rfl⟩) hob
 refine wp_region_any hm (zlw (zlv hok) h1.1 hB (fun k o F h2 h3 => ?_) hsz hfin _ _ a _ ⟨List.range l.length, List.nodup_range, fun i => ?_, by simp⟩ ⟨?_, hsz, rfl, by simp, ?_, fun _ _ => rfl, ?_⟩ (by simp [Array.getD]))
 ·obtain ⟨lk, h4, h5⟩ := h1.2 k o F h2 h3
  refine ⟨lk, h4, fun s => ?_⟩
  simpa using h5 s
 ·simp [Array.getD]
 ·exact hbel.drew
 ·intro j o F h2 h3 h4
  simp [Array.getD] at h4
 ·intro j o h2 h4
  simp [Array.getD] at h4
end

section
variable {P : Program} {ops : Array Oper} {B : Nat} {w0 : World} {o : Oper} {F : SF} {lk : Tmp → SF}
def Opd (lk : Tmp → SF) (o : Oper) (a : Act) (w : World) : Prop := ∀ s ∈ o.op.operands.toList.filterMap (fun | .tmp t => some t | _ => none), (lk s).F (a.tmps[s]?.getD undef) w
theorem zc4 (a : Array Value) (s : Nat) : a.getD s undef = a[s]?.getD undef := by
 unfold Array.getD
 by_cases h : s < a.size <;> simp [h]
theorem zew (hg : o.guard = none) (h : ∀ a w, Below B w0 w → Opd lk o a w →
 o.wp P a w (fun a' w' => ∃ v, a' = a.put o.dst v ∧ F.F v w' ∧ Below w.heap.size w w') (fun _ _ _ => False)) : opOb P ops B w0 o F lk := by
 intro a w hb hf
 rw [if_pos (by simp [Region.wanted, hg])]
 exact h a w hb fun s hs => by rw [← zc4]; exact hf s (List.mem_append_left _ hs)
theorem zbw (v : Value) (hg : o.guard = none) (h : ∀ a w, Below B w0 w → Opd lk o a w → (execOp a.eval o).run P w = .ok (.value v) w) : opOb P ops B w0 o (sI v) lk :=
 zew hg fun a w hb hf => by
  unfold Oper.wp
  rw [h a w hb hf]
  exact ⟨v, rfl, rfl, Below.refl _ _⟩
theorem zb9 (hg : o.guard = none) (h : ∀ a w, Below B w0 w → Opd lk o a w → ∃ f args, (execOp a.eval o).run P w = .ok (.enter f args) w ∧ Calls P f args w fun e w' => ∃ v, e = .returned v ∧ F.F v w' ∧ Below w.heap.size w w') : opOb P ops B w0 o F lk :=
 zew hg fun a w hb hf => by
  obtain ⟨f, args, hr, hc⟩ := h a w hb hf
  unfold Oper.wp
  rw [hr]
  exact hc.mono fun e w' ⟨v, he, hk⟩ => by subst he; exact ⟨v, rfl, hk⟩
theorem zaa (x : Tmp) (hg : o.guard = none) (hop : o.op = .move (.tmp x) ∨ o.op = .assign (.tmp x)) (hF : lk x = F) : opOb P ops B w0 o F lk :=
 zew hg fun a w _ hf => by
  have h := hf x (by rcases hop with h | h <;> rw [h] <;> simp [Op.operands])
  rw [hF, ← zc4] at h
  rcases hop with hop | hop
  ·unfold Oper.wp; rw [show (execOp a.eval o).run P w = .ok (.value (a.eval (.tmp x))) w by unfold execOp; rw [hop]; rfl]
   exact ⟨_, rfl, h, Below.refl _ _⟩
  ·unfold Oper.wp; rw [show (execOp a.eval o).run P w = .ok (.value (a.eval (.tmp x))) w by unfold execOp; rw [hop]; rfl]
   exact ⟨_, rfl, h, Below.refl _ _⟩
theorem zav {dst : Option Tmp} {op : Op} {type : TypeId} {pos : String} {after : Array Edge} {j : Nat} {want : Bool} (d : Tmp) (hj : (ops[j]?).bind (·.dst) = some d) (hlk : lk d = sI (.bool want))
    (h : opOb P ops B w0 ⟨dst, op, type, pos, after, none⟩ F lk) : opOb P ops B w0 ⟨dst, op, type, pos, after, some (j, want)⟩ F lk := by
 intro a w hb hf
 have h1 := hf d (by unfold Oper.looksAt; refine List.mem_append_right _ ?_; simp [hj])
 rw [hlk] at h1
 have hw : Region.wanted (⟨dst, op, type, pos, after, some (j, want)⟩ : Oper) (yielded ops a.tmps) = true := by
  have h2 : a.tmps.getD d undef = .bool want := h1
  have h3 : a.tmps[d]? = some (.bool want) := by
   rw [zc4] at h2
   cases h4 : a.tmps[d]? with
   | none => rw [h4] at h2; cases h2
   | some v => rw [h4] at h2; simp at h2; rw [h2]
  simp [Region.wanted, yielded, hj, h3]
 rw [if_pos hw]
 have h5 := h a w hb (fun s hs => hf s (by
  unfold Oper.looksAt at hs ⊢
  simp only [List.append_nil] at hs
  exact List.mem_append_left _ hs))
 rw [if_pos (by rfl)] at h5
 exact h5
theorem za2 {dst : Option Tmp} {op : Op} {type : TypeId} {pos : String} {after : Array Edge} {j : Nat} {want : Bool} {v : Value} (d : Tmp) (hj : (ops[j]?).bind (·.dst) = some d) (hlk : lk d = sI v) (hv : v ≠ .bool want) :
 opOb P ops B w0 ⟨dst, op, type, pos, after, some (j, want)⟩ (sI undef) lk := by
 intro a w hb hf
 have h1 := hf d (by unfold Oper.looksAt; refine List.mem_append_right _ ?_; simp [hj])
 rw [hlk] at h1
 have hw : ¬ Region.wanted (⟨dst, op, type, pos, after, some (j, want)⟩ : Oper) (yielded ops a.tmps) = true := by
  have h2 : a.tmps.getD d undef = v := h1
  intro h3
  apply hv
  rw [zc4] at h2
  simp only [Region.wanted, yielded, hj, Option.bind_some] at h3
  cases h4 : a.tmps[d]? with
  | none => rw [h4] at h3; simp at h3
  | some u =>
   rw [h4] at h2 h3
   simp at h2
   subst h2
   cases u <;> simp at h3
   rw [h3]
 rw [if_neg hw]
 rfl
end
end Go.Proofs.YtomilckcgmhfcaaDoor
