/- A part of what the proofs stand on: Lib, Row, Own, Reg, Whole. -/
import Derived.Test.YtomilckcgmhfcaaDoorGLiv1
import Derived.Test.YtomilckcgmhfcaaDoorRows
import Derived.WalkKit
import Derived.WalkSpells
import Derived.WalkLawsBesides
import Derived.BigQuiet
import Derived.Deep.OwnRows
import Derived.Deep.RegionWith
import Derived.Deep.Draws
import Derived.Deep.Grids
import Derived.Deep.DeepFit
import Derived.Lib.Hide
import Derived.ProofKit
import Derived.OpenShut
import Derived.ShutString
import Derived.SizedLaws
import Derived.JoinedCond
import Derived.Maps.AppendAt
import Derived.Deep.AppendLies
import Derived.RegionCalls
import Derived.Laws.Rows
import Derived.Laws.Tables
/- Words for memory: a slice that reads as a function of its index, kept over all that the call does to newer blocks. -/
namespace Go.Proofs.YtomilckcgmhfcaaDoor
set_option maxRecDepth 40000
open Go.RowKit
theorem pcX : (∀ (a : Act) (d : Tmp) (v : Value), a.put (some d) v = { a with tmps := a.tmps.setIfInBounds d v }) ∧ (∀ (a : Act) (v : Value), a.put none v = a) ∧ (∀ (l : List Value) (i : Nat) (x : Value), l.toArray.setIfInBounds i x = (l.set i x).toArray) ∧ (∀ (x y : Value) (n : Nat) (l : List Value), (x :: l).set (n + 1) y = x :: l.set n y) ∧ (∀ (x y : Value) (l : List Value), (x :: l).set 0 y = y :: l) :=
 ⟨fun _ _ _ => rfl, fun _ _ => rfl, fun l i x => by simp, fun _ _ _ _ => rfl, fun _ _ _ => rfl⟩

theorem block_of_add (a : Addr) (n : Nat) : (a.add n).block = a.block := by unfold Addr.add; split <;> rfl
theorem add_of_add (a : Addr) (i j : Nat) : (a.add i).add j = a.add (i + j) := by
 unfold Addr.add
 by_cases hi : i = 0 <;> by_cases hj : j = 0 <;> simp [hi, hj, Nat.add_assoc]
theorem add_lit0 (g n : Nat) : (⟨g, 0, none⟩ : Addr).add n = ⟨g, n, none⟩ := by
 unfold Addr.add; split <;> simp_all

/-- The slice '.slice A n _' reads as f, and lies below block B. -/
def Rd (w : World) (B : Nat) (A : Option Addr) (n : Nat) (f : Nat → Value) : Prop :=
 0 < n → ∃ ad, A = some ad ∧ ad.block < B ∧ ∀ i, i < n → w.cell? (ad.add i) = some (f i)

section
variable {w w' : World} {B B' n : Nat} {A : Option Addr} {f f' : Nat → Value}
theorem Rd.none_ : Rd w B A 0 f := fun h => absurd h (by omega)
theorem Rd.at_ {k : Nat} (h : Rd w B A n f) (hk : k < n) : ∃ ad, A = some ad ∧ ad.block < B ∧ w.cell? (ad.add k) = some (f k) := by
 obtain ⟨ad, e, hb, hc⟩ := h (by omega)
 exact ⟨ad, e, hb, hc k hk⟩
theorem Rd.cell_ {ad : Addr} {k : Nat} (h : Rd w B (some ad) n f) (hk : k < n) : w.cell? (ad.add k) = some (f k) := by
 obtain ⟨ad', e, hb, hc⟩ := h (by omega)
 injection e with e
 subst e
 exact hc k hk
theorem Rd.keep (h : Rd w B A n f) (hk : ∀ p : Addr, p.block < B → w'.cell? p = w.cell? p) : Rd w' B A n f := fun hn => by
 obtain ⟨ad, e, hb, hc⟩ := h hn
 exact ⟨ad, e, hb, fun i hi => (hk _ (by rw [block_of_add]; exact hb)).trans (hc i hi)⟩
theorem Rd.more (h : Rd w B A n f) (hB : B ≤ B') : Rd w B' A n f := fun hn => by
 obtain ⟨ad, e, hb, hc⟩ := h hn
 exact ⟨ad, e, by omega, hc⟩
theorem Rd.congr (h : Rd w B A n f) (e : ∀ i, i < n → f i = f' i) : Rd w B A n f' := fun hn => by
 obtain ⟨ad, ea, hb, hc⟩ := h hn
 exact ⟨ad, ea, hb, fun i hi => (hc i hi).trans (by rw [e i hi])⟩
theorem Rd.short {k : Nat} (h : Rd w B A n f) (hk : k ≤ n) : Rd w B A k f := fun hn => by
 obtain ⟨ad, ea, hb, hc⟩ := h (by omega)
 exact ⟨ad, ea, hb, fun i hi => hc i (by omega)⟩
theorem Rd.below (h : Rd w B A n f) (hb : Below B w w') : Rd w' B A n f := h.keep fun _ hp => hb.cell hp
theorem Rd.alloc (h : Rd w B A n f) (hB : B ≤ w.heap.size) (o : Obj) : Rd (w.alloc o) B A n f := h.keep fun p hp => World.cell?_alloc_lt w o p (by omega)
theorem Rd.grown (h : Rd w B A n f) {row : Option Nat} (hg : w.grownBy w' row) (hB : B ≤ w.heap.size) (hr : ∀ g, row = some g → B ≤ g) : Rd w' B A n f :=
 h.keep fun p hp => World.cell?_of_block (hg.block p.block (by omega) (fun e => by have := hr _ e.symm; omega))
theorem Rd.of_row {g : Nat} {t : TypeId} {m : Nat} (h : w.rowIs g t m f) (hn : n ≤ m) (hB : g < B) : Rd w B (some ⟨g, 0, none⟩) n f :=
 fun _ => ⟨_, rfl, hB, fun i hi => by rw [add_lit0]; exact h.cell (by omega)⟩
end

theorem grown_drewN {a w : World} {row : Option Nat} (h : a.grownBy w row) (n : Nat) : a.grownBy (w.drewN n) row := ⟨h.os, h.tape, h.output, h.size, h.block⟩
theorem grown_drew {a w : World} {row : Option Nat} (h : a.grownBy w row) : a.grownBy w.drew row := ⟨h.os, h.tape, h.output, h.size, h.block⟩
theorem grown_setCell {a w : World} {g : Nat} (h : a.grownBy w (some g)) {p : Addr} (hp : p.block = g ∨ a.heap.size ≤ p.block) (u : Value) : a.grownBy (w.setCell p u) (some g) :=
 ⟨h.os, h.tape, h.output, by simpa [World.setCell] using h.size, fun i hi hne => (Below.heap_setCell w p u i (by
  rintro rfl
  rcases hp with hp | hp
  ·exact hne (by rw [hp])
  ·omega)).trans (h.block i hi hne)⟩
theorem grown_trans {a b c : World} {row : Option Nat} (h : a.grownBy b row) (k : b.grownBy c row) : a.grownBy c row :=
 ⟨k.os.trans h.os, k.tape.trans h.tape, k.output.trans h.output, Nat.le_trans h.size k.size, fun i hi hne => (k.block i (Nat.lt_of_lt_of_le hi h.size) hne).trans (h.block i hi hne)⟩
theorem below_of_grown {a b : World} {g : Nat} (h : a.grownBy b (some g)) {B : Nat} (hB : B ≤ g) (hs : B ≤ a.heap.size) : Below B a b :=
 ⟨h.os, h.tape, h.output, h.size, fun i hi => h.block i (by omega) (fun e => by injection e; omega)⟩
theorem grown_of_below {a w : World} (h : Below a.heap.size a w) (row : Option Nat) : a.grownBy w row := ⟨h.os, h.tape, h.output, h.size, fun i hi _ => h.block i hi⟩
theorem row_below {w w' : World} {b B : Nat} {t : TypeId} {n : Nat} {f : Nat → Value} (h : w.rowIs b t n f) (hb : Below B w w') (hB : b < B) : w'.rowIs b t n f := h.of_block (hb.block _ hB)

theorem ret_int {k : IntKind} {a b : Int} (h : a = b) : Ending.returned (.int k a) = .returned (.int k b) := by rw [h]
theorem ret_bool {a b : Bool} (h : a = b) : Ending.returned (.bool a) = .returned (.bool b) := by rw [h]

end Go.Proofs.YtomilckcgmhfcaaDoor
/- Arguments that came in, as functions of the index. -/
namespace Go.Proofs.YtomilckcgmhfcaaDoor
set_option maxRecDepth 40000
open Go.RowKit Go.ChangeShapes Go.WideShapes Go.ChangeAt

theorem cell_lt {w : World} {a : Addr} {v : Value} (h : w.cell? a = some v) : a.block < w.heap.size := by
 rcases Nat.lt_or_ge a.block w.heap.size with hl | hl
 ·exact hl
 ·exfalso
  unfold World.cell? at h
  rw [Array.getElem?_eq_none hl] at h
  simp at h

theorem rd_of {w : World} {x : Addr} {n : Nat} {f : Nat → Value} (h : ∀ i, i < n → w.cell? (x.add i) = some (f i)) : Rd w w.heap.size (some x) n f := fun hn =>
 ⟨x, rfl, by have := cell_lt (h 0 hn); rwa [block_of_add] at this, h⟩

theorem wf_u8 {n : Int} (h : (Lit.int .u8 n).wf = true) : 0 ≤ n ∧ n < 256 := by
 simp [Lit.wf, IntKind.min, IntKind.max, IntKind.signed, IntKind.bits] at h; omega
theorem wf_u64 {n : Int} (h : (Lit.int .u64 n).wf = true) : 0 ≤ n ∧ n < 18446744073709551616 := by
 simp [Lit.wf, IntKind.min, IntKind.max, IntKind.signed, IntKind.bits] at h; omega
/-- A slice of integers of an unsigned kind. -/
theorem rd_ints {w : World} {x : Addr} {len : Nat} {k : IntKind} {M : Nat} {zs : List Int} (hwf : ∀ n ∈ zs, 0 ≤ n ∧ n < M) (hl : len ≤ zs.length) (h : ∀ i, i < zs.length → w.cell? (x.add i) = some (.int k (zs.getD i 0))) (hM : 0 < M) :
  ∃ z : Nat → Nat, Rd w w.heap.size (some x) len (fun i => .int k ((z i : Nat) : Int)) ∧ ∀ i, z i < M := by
 have hz : ∀ i, 0 ≤ zs.getD i 0 ∧ zs.getD i 0 < M := by
  intro i
  by_cases hi : i < zs.length
  ·have := hwf zs[i] (List.getElem_mem hi)
   simpa [List.getD, hi] using this
  ·simp [List.getD, hi, hM]
 refine ⟨fun i => (zs.getD i 0).toNat, rd_of fun i hi => ?_, fun i => by have := hz i; show (zs.getD i 0).toNat < M; omega⟩
 rw [h i (by omega)]
 have := hz i
 simp only [Int.toNat_of_nonneg this.1]
end Go.Proofs.YtomilckcgmhfcaaDoor
/- Rows of the call's own that grow: append of whatever reads as a function of its index. -/
namespace Go.Proofs.YtomilckcgmhfcaaDoor
set_option maxRecDepth 40000
open Go.RowKit

section
variable {w w' : World} {base n c : Nat} {e : TypeId} {A : Option Addr} {f f' : Nat → Value}
end

/-- f, and behind its first n g. -/
def catF (n : Nat) (f g : Nat → Value) : Nat → Value := fun i => if i < n then f i else g (i - n)
theorem catF_map (n m : Nat) (f g : Nat → Value) : (List.range n).map f ++ (List.range m).map g = (List.range (n + m)).map (catF n f g) := by
 rw [List.range_add, List.map_append]
 congr 1
 ·exact List.map_congr_left (fun i hi => by simp [catF, List.mem_range.1 hi])
 ·rw [List.map_map]; exact List.map_congr_left (fun i _ => by simp [catF, show ¬ n + i < n by omega])

section
variable {P : Program} (w : World)
end

/-- Behind an append the old memory is as it was. -/
theorem below_app {B : Nat} {a w w' : World} {A : Option Addr} (h : Below B a w) (hg : w.grownBy w' (A.map (·.block))) (hB : B ≤ w.heap.size) (hA : ∀ ad, A = some ad → B ≤ ad.block) : Below B a w' :=
 h.grown hg hB fun k hk => by
  cases A with
  | none => cases hk
  | some ad => injection hk with hk; subst hk; exact hA ad rfl
end Go.Proofs.YtomilckcgmhfcaaDoor
/- A region that draws its order and holds calls that make memory: each operation is shown by itself, in whatever state leaves true what its operands are known to be; whatever order is drawn, all of it holds at the end. -/
namespace Go.Proofs.YtomilckcgmhfcaaDoor
set_option maxRecDepth 40000
open Go.RowKit

/-- A fact on a value and the world, kept where only new memory is made. -/
structure SF where
 F : Value → World → Prop
 st : ∀ v w w', F v w → Below w.heap.size w w' → F v w'
/-- The value is e. -/
def SF.is (e : Value) : SF := ⟨fun v _ => v = e, fun _ _ _ h _ => h⟩
section
variable {P : Program}

def look (a0 : Act) : List (Tmp × SF) → Tmp → SF
 | [], s => SF.is (a0.tmps.getD s undef)
 | (d, F) :: E, s => if d = s then F else look a0 E s
def push (o : Oper) (F : SF) (E : List (Tmp × SF)) : List (Tmp × SF) := match o.dst with | some d => (d, F) :: E | none => E

/-- One operation, by itself. -/
def opOb (P : Program) (ops : Array Oper) (B : Nat) (w0 : World) (o : Oper) (F : SF) (lk : Tmp → SF) : Prop :=
 ∀ a w, Below B w0 w → (∀ s ∈ o.looksAt ops, (lk s).F (a.tmps.getD s undef) w) →
  if Region.wanted o (yielded ops a.tmps) = true then o.wp P a w (fun a' w' => ∃ v, a' = a.put o.dst v ∧ F.F v w' ∧ Below w.heap.size w w') (fun _ _ _ => False) else F.F undef w

def obs (P : Program) (ops : Array Oper) (B : Nat) (w0 : World) (a0 : Act) : List Oper → List SF → List (Tmp × SF) → Prop
 | [], [], _ => True
 | o :: os, F :: Fs, E => opOb P ops B w0 o F (look a0 E) ∧ obs P ops B w0 a0 os Fs (push o F E)
 | _, _, _ => False

def fin (Q : Act → World → Prop) : List Oper → List SF → Act → World → Prop
 | o :: os, F :: Fs, a, w => ∀ v, F.F v w → fin Q os Fs (a.put o.dst v) w
 | _, _, a, w => Q a w

def okR (n : Nat) (ops : Array Oper) : Bool :=
 Region.noSelect ops && (List.range ops.size).all fun i => match ops[i]? with
  | none => true
  | some oi =>
   oi.after.all (fun e => !Region.binds .any e || decide (e.on < i)) &&
   (match oi.dst with | some d => decide (d < n) && !(oi.looksAt ops).contains d | none => false) &&
   (List.range i).all fun j => match ops[j]? with
    | none => true
    | some oj =>
     (oi.after.any (fun e => Region.binds .any e && e.on == j) || ((match oj.dst with | some d => !(oi.looksAt ops).contains d | none => true) && (match oi.dst with | some d => !(oj.looksAt ops).contains d | none => true))) &&
     (match oj.dst, oi.dst with | some d, some d' => d != d' | _, _ => true)

structure OkR (n : Nat) (ops : Array Oper) : Prop where
 sel : Region.noSelect ops = true
 back : ∀ (i : Nat) oi, ops[i]? = some oi → ∀ e ∈ oi.after, Region.binds .any e = true → e.on < i
 room : ∀ (i : Nat) oi d, ops[i]? = some oi → oi.dst = some d → d < n
 has : ∀ (i : Nat) oi, ops[i]? = some oi → oi.dst ≠ none
 self : ∀ (i : Nat) oi d, ops[i]? = some oi → oi.dst = some d → d ∉ oi.looksAt ops
 two : ∀ (i j : Nat) oi oj, ops[i]? = some oi → ops[j]? = some oj → j < i → (∃ e ∈ oi.after, Region.binds .any e = true ∧ e.on = j) ∨ ((∀ d, oj.dst = some d → d ∉ oi.looksAt ops) ∧ (∀ d, oi.dst = some d → d ∉ oj.looksAt ops))
 dsts : ∀ (i j : Nat) oi oj d, ops[i]? = some oi → ops[j]? = some oj → oi.dst = some d → oj.dst = some d → i = j

theorem okR_spec {n : Nat} {ops : Array Oper} (h : okR n ops = true) : OkR n ops := by
 unfold okR at h
 rw [Bool.and_eq_true] at h
 obtain ⟨hs, h⟩ := h
 rw [List.all_eq_true] at h
 have hi : ∀ (i : Nat) oi, ops[i]? = some oi → _ := fun i oi ho => by
  have hlt : i < ops.size := (Array.getElem?_eq_some_iff.1 ho).1
  have := h i (List.mem_range.2 hlt)
  rw [ho] at this
  simp only [Bool.and_eq_true] at this
  exact this
 have hd : ∀ (i j : Nat) oi oj d, j < i → ops[i]? = some oi → ops[j]? = some oj → oi.dst = some d → oj.dst = some d → False := by
  intro i j oi oj d hji hoi hoj hdi hdj
  have h1 := (hi i oi hoi).2
  rw [List.all_eq_true] at h1
  have h2 := h1 j (List.mem_range.2 hji)
  rw [hoj] at h2
  simp [hdi, hdj] at h2
 refine ⟨hs, ?_, ?_, ?_, ?_, ?_, ?_⟩
 ·intro i oi ho e he hb
  have h1 := (hi i oi ho).1.1
  rw [Array.all_eq_true_iff_forall_mem] at h1
  have h2 := h1 e he
  simpa [hb] using h2
 ·intro i oi d ho hdd
  have h1 := (hi i oi ho).1.2
  simp [hdd] at h1
  exact h1.1
 ·intro i oi ho hdd
  have h1 := (hi i oi ho).1.2
  simp [hdd] at h1
 ·intro i oi d ho hdd
  have h1 := (hi i oi ho).1.2
  simp [hdd] at h1
  exact h1.2
 ·intro i j oi oj hoi hoj hji
  have h1 := (hi i oi hoi).2
  rw [List.all_eq_true] at h1
  have h2 := h1 j (List.mem_range.2 hji)
  rw [hoj] at h2
  simp only [Bool.and_eq_true, Bool.or_eq_true] at h2
  rcases h2.1 with h3 | h3
  ·rw [Array.any_eq_true] at h3
   obtain ⟨x, hx, h4⟩ := h3
   simp only [Bool.and_eq_true, beq_iff_eq] at h4
   exact .inl ⟨oi.after[x], Array.getElem_mem hx, h4⟩
  ·refine .inr ⟨fun d hdd => ?_, fun d hdd => ?_⟩
   ·have := h3.1; simpa [hdd] using this
   ·have := h3.2; simpa [hdd] using this
 ·intro i j oi oj d hoi hoj hdi hdj
  rcases Nat.lt_trichotomy i j with h1 | h1 | h1
  ·exact (hd j i oj oi d h1 hoj hoi hdj hdi).elim
  ·exact h1
  ·exact (hd i j oi oj d h1 hoi hoj hdi hdj).elim

/-- What is known at an operation, by the writers ahead of it. -/
theorem obs_at {ops : Array Oper} {B : Nat} {w0 : World} {a0 : Act} {pre0 : List Oper} : ∀ (os : List Oper) (Fs : List SF) (E : List (Tmp × SF)) (pre : List Oper) (Fp : List SF),
  pre.length = Fp.length →
  (∀ s, (∃ (j : Nat) (o : Oper) (F : SF), pre[j]? = some o ∧ Fp[j]? = some F ∧ o.dst = some s ∧ look a0 E s = F) ∨ ((∀ o ∈ pre, o.dst ≠ some s) ∧ look a0 E s = SF.is (a0.tmps.getD s undef))) →
  obs P ops B w0 a0 os Fs E → os.length = Fs.length ∧ ∀ k o F, os[k]? = some o → Fs[k]? = some F → ∃ lk, opOb P ops B w0 o F lk ∧
   ∀ s, (∃ (j : Nat) (o' : Oper) (F' : SF), j < pre.length + k ∧ (pre ++ os)[j]? = some o' ∧ (Fp ++ Fs)[j]? = some F' ∧ o'.dst = some s ∧ lk s = F') ∨ ((∀ (j : Nat) (o' : Oper), j < pre.length + k → (pre ++ os)[j]? = some o' → o'.dst ≠ some s) ∧ lk s = SF.is (a0.tmps.getD s undef))
 | [], [], _, _, _, _, _, _ => ⟨rfl, fun k o F h => by simp at h⟩
 | [], _ :: _, _, _, _, _, _, h => h.elim
 | _ :: _, [], _, _, _, _, _, h => h.elim
 | o :: os, F :: Fs, E, pre, Fp, hl, hE, h => by
  obtain ⟨h1, h2⟩ := h
  have hE' : ∀ s, (∃ (j : Nat) (o' : Oper) (F' : SF), (pre ++ [o])[j]? = some o' ∧ (Fp ++ [F])[j]? = some F' ∧ o'.dst = some s ∧ look a0 (push o F E) s = F') ∨ ((∀ o' ∈ pre ++ [o], o'.dst ≠ some s) ∧ look a0 (push o F E) s = SF.is (a0.tmps.getD s undef)) := by
   intro s
   by_cases hd : o.dst = some s
   ·refine .inl ⟨pre.length, o, F, by simp, by simp [hl], hd, ?_⟩
    simp [push, hd, look]
   ·have hp : look a0 (push o F E) s = look a0 E s := by
     unfold push
     cases hdd : o.dst with
     | none => rfl
     | some d => simp only [look]; rw [if_neg (fun e => hd (by rw [hdd, e]))]
    rcases hE s with ⟨j, o', F', h3, h4, h5, h6⟩ | ⟨h3, h4⟩
    ·have hj := (List.getElem?_eq_some_iff.1 h3).1
     exact .inl ⟨j, o', F', by rw [List.getElem?_append_left hj]; exact h3, by rw [List.getElem?_append_left (by omega)]; exact h4, h5, by rw [hp]; exact h6⟩
    ·refine .inr ⟨fun o' ho' => ?_, by rw [hp]; exact h4⟩
     rcases List.mem_append.1 ho' with h5 | h5
     ·exact h3 o' h5
     ·simp at h5; subst h5; exact hd
  obtain ⟨hlen, hrest⟩ := obs_at (pre0 := pre0) os Fs (push o F E) (pre ++ [o]) (Fp ++ [F]) (by simp [hl]) hE' h2
  refine ⟨by simp [hlen], fun k ok Fk hk hF => ?_⟩
  cases k with
  | zero =>
   simp only [List.getElem?_cons_zero, Option.some.injEq] at hk hF
   subst hk hF
   refine ⟨look a0 E, h1, fun s => ?_⟩
   rcases hE s with ⟨j, o', F', h3, h4, h5, h6⟩ | ⟨h3, h4⟩
   ·have hj := (List.getElem?_eq_some_iff.1 h3).1
    exact .inl ⟨j, o', F', by omega, by rw [List.getElem?_append_left hj]; exact h3, by rw [List.getElem?_append_left (by omega)]; exact h4, h5, h6⟩
   ·refine .inr ⟨fun j o' hj ho' => ?_, h4⟩
    rw [List.getElem?_append_left (by omega)] at ho'
    exact h3 o' (List.mem_of_getElem? ho')
  | succ k =>
   simp only [List.getElem?_cons_succ] at hk hF
   obtain ⟨lk, h3, h4⟩ := hrest k ok Fk hk hF
   refine ⟨lk, h3, fun s => ?_⟩
   have e1 : pre ++ [o] ++ os = pre ++ o :: os := by simp
   have e2 : Fp ++ [F] ++ Fs = Fp ++ F :: Fs := by simp
   have e3 : (pre ++ [o]).length + k = pre.length + (k + 1) := by simp; omega
   have h5 := h4 s
   rw [e1, e2, e3] at h5
   exact h5

/-- Where it neither panics nor outgrows, whatever is asked of these is met. -/
theorem Oper.wp_safe {o : Oper} {a : Act} {w : World} {K : Act → World → Prop} {Q : Exit → Act → World → Prop} (hh : o.wp P a w K (fun _ _ _ => False)) : o.wp P a w K Q := by
 unfold Oper.wp at *
 generalize (execOp a.eval o).run P w = r at *
 cases r with
 | ok n w' =>
  cases n <;> simp only [Oper.upon] at hh ⊢ <;>
   first
    | exact hh
    | exact Calls.mono hh (fun e w'' he => by
      cases e with
      | returned v => exact he
      | panicked c => exact he.elim
      | outgrown => obtain ⟨_, _, h⟩ := he; exact h.elim)
 | halt x w' => cases x <;> simp only [Oper.upon] at hh ⊢ <;> exact hh.elim

/-- What holds while the region runs. -/
structure RInv (n : Nat) (l : List Oper) (Fs : List SF) (B : Nat) (w0 : World) (a0 : Act) (listed : Array Bool) (a : Act) (w : World) : Prop where
 bel : Below B w0 w
 tsz : a.tmps.size = n
 dfs : a.defers = a0.defers
 lsz : listed.size = l.length
 fact : ∀ (j : Nat) o F, l[j]? = some o → Fs[j]? = some F → listed.getD j false = true → F.F (match o.dst with | some d => a.tmps.getD d undef | none => undef) w
 rest : ∀ d, (∀ (j : Nat) o, l[j]? = some o → listed.getD j false = true → o.dst ≠ some d) → a.tmps.getD d undef = a0.tmps.getD d undef
 down : ∀ (j : Nat) o, l[j]? = some o → listed.getD j false = true → ∀ e ∈ o.after, Region.binds .any e = true → listed.getD e.on false = true

theorem put_getD (a : Act) (dst : Option Tmp) (v : Value) (d : Tmp) (hd : ∀ t, dst = some t → t < a.tmps.size) : (a.put dst v).tmps.getD d undef = if dst = some d then v else a.tmps.getD d undef := by
 cases dst with
 | none => simp [Act.put]
 | some t =>
  have := hd t rfl
  simp only [Act.put, Option.some.injEq]
  by_cases e : t = d
  ·subst e; simp [Array.getD, this]
  ·rw [if_neg e]
   unfold Array.getD
   by_cases hds : d < a.tmps.size
   ·simp only [Array.size_setIfInBounds, hds, dif_pos]
    show (a.tmps.setIfInBounds t v)[d]'(by simpa using hds) = a.tmps[d]
    rw [Array.getElem_setIfInBounds_ne _ (by omega)]
   ·simp [hds]

theorem fin_use {Q : Act → World → Prop} {w : World} {a : Act} : ∀ (os : List Oper) (Fs : List SF) (b : Act), os.length = Fs.length → fin Q os Fs b w →
  (∀ (j : Nat) o F, os[j]? = some o → Fs[j]? = some F → F.F (match o.dst with | some d => a.tmps.getD d undef | none => undef) w) → b.tmps.size = a.tmps.size → b.defers = a.defers →
  (∀ d, (∀ (j : Nat) o, os[j]? = some o → o.dst ≠ some d) → b.tmps.getD d undef = a.tmps.getD d undef) →
  (∀ (j : Nat) o d, os[j]? = some o → o.dst = some d → d < a.tmps.size) → Q a w
 | [], [], b, _, h, _, hs, hdf, hr, _ => by
  have : b = a := by
   obtain ⟨bt, bd⟩ := b
   obtain ⟨at_, ad⟩ := a
   simp only at hs hdf hr
   subst hdf
   congr
   apply Array.ext hs
   intro i h1 h2
   have := hr i (by simp)
   simpa [Array.getD, h1, h2] using this
  rw [← this]; exact h
 | [], _ :: _, _, hl, _, _, _, _, _, _ => by simp at hl
 | _ :: _, [], _, hl, _, _, _, _, _, _ => by simp at hl
 | o :: os, F :: Fs, b, hl, h, hF, hs, hdf, hr, hroom => by
  have hlt : ∀ t, o.dst = some t → t < b.tmps.size := fun t ht => by rw [hs]; exact hroom 0 o t rfl ht
  refine fin_use os Fs (b.put o.dst (match o.dst with | some d => a.tmps.getD d undef | none => undef)) (by simpa using hl) (h _ (hF 0 o F rfl rfl)) (fun j o' F' h1 h2 => hF (j + 1) o' F' h1 h2) ?_ ?_ ?_ (fun j o' d h1 h2 => hroom (j + 1) o' d h1 h2)
  ·rw [← hs]; cases o.dst <;> simp [Act.put]
  ·rw [← hdf]; cases o.dst <;> simp [Act.put]
  ·intro d hd
   rw [put_getD _ _ _ _ hlt]
   by_cases e : o.dst = some d
   ·rw [if_pos e]; simp [e]
   ·rw [if_neg e]
    refine hr d (fun j o' hj => ?_)
    cases j with
    | zero => simp at hj; subst hj; exact e
    | succ j => exact hd j o' hj

theorem wpAny_facts {l : List Oper} {Fs : List SF} {n B : Nat} {w0 : World} {a0 : Act} {Q : Exit → Act → World → Prop} (hok : OkR n l.toArray) (hlen : l.length = Fs.length) (hB : B ≤ w0.heap.size)
  (hob : ∀ (k : Nat) o F, l[k]? = some o → Fs[k]? = some F → ∃ lk, opOb P l.toArray B w0 o F lk ∧
   ∀ s, (∃ (j : Nat) (o' : Oper) (F' : SF), j < k ∧ l[j]? = some o' ∧ Fs[j]? = some F' ∧ o'.dst = some s ∧ lk s = F') ∨ ((∀ (j : Nat) (o' : Oper), j < k → l[j]? = some o' → o'.dst ≠ some s) ∧ lk s = SF.is (a0.tmps.getD s undef)))
  (hsz : a0.tmps.size = n) (hfin : ∀ w, Below B w0 w → fin (Q .normal) l Fs a0 w) :
  ∀ (fuel : Nat) (listed : Array Bool) (a : Act) (w : World), (∃ u : List Nat, u.Nodup ∧ (∀ i, i ∈ u ↔ i < l.length ∧ listed.getD i false = false) ∧ u.length ≤ fuel) →
   RInv n l Fs B w0 a0 listed a w → wpAny P .any l.toArray Q fuel listed a w := by
 have ho : ∀ (i : Nat), l.toArray[i]? = l[i]? := fun i => by simp
 -- all listed: the end
 have hend : ∀ (listed : Array Bool) (a : Act) (w : World), RInv n l Fs B w0 a0 listed a w → (∀ i, i < l.length → listed.getD i false = true) → Q .normal a w := by
  intro listed a w hI hall
  refine fin_use l Fs a0 hlen (hfin w hI.bel) (fun j o F h1 h2 => hI.fact j o F h1 h2 (hall j (List.getElem?_eq_some_iff.1 h1).1)) (hsz.trans hI.tsz.symm) hI.dfs.symm ?_ (fun j o d h1 h2 => by rw [hI.tsz]; exact hok.room j o d (by rw [ho]; exact h1) h2)
  intro d hd
  exact (hI.rest d (fun j o h1 _ => hd j o h1)).symm
 have hnoneReady : ∀ (listed : Array Bool), listed.size = l.length → Region.ready .any l.toArray listed = [] → ∀ i, i < l.length → listed.getD i false = true := by
  intro listed hls hr i
  induction i using Nat.strongRecOn with
  | ind i ih =>
   intro hi
   cases hc : listed.getD i false with
   | true => rfl
   | false =>
    exfalso
    have hil : i < listed.size := by omega
    have : i ∈ Region.ready .any l.toArray listed := mem_ready.2 ⟨by simpa [Array.getD, hil] using hc, l[i], by simp [hi], fun e he hb => ih e.on (hok.back i l[i] (by simp [hi]) e he hb) (by have := hok.back i l[i] (by simp [hi]) e he hb; omega)⟩
    rw [hr] at this; cases this
 intro fuel
 induction fuel with
 | zero =>
  intro listed a w ⟨u, _, hu, hul⟩ hI
  have hun : u = [] := List.eq_nil_of_length_eq_zero (by omega)
  subst hun
  have hall : ∀ i, i < l.length → listed.getD i false = true := fun i hi => by
   cases hc : listed.getD i false with
   | true => rfl
   | false => exact absurd ((hu i).2 ⟨hi, hc⟩) (by simp)
  refine ⟨?_, hend listed a w hI hall⟩
  rw [List.eq_nil_iff_forall_not_mem]
  intro i hi
  obtain ⟨h1, o, h2, _⟩ := mem_ready.1 hi
  have hil : i < l.length := by have := (Array.getElem?_eq_some_iff.1 h2).1; simpa using this
  have h3 := hall i hil
  have hls : i < listed.size := by rw [hI.lsz]; exact hil
  simp [Array.getD, hls] at h1 h3
  rw [h1] at h3; cases h3
 | succ fuel ih =>
  intro listed a w ⟨u, hnd, hu, hul⟩ hI
  refine ⟨fun hr => hend listed a w hI (hnoneReady listed hI.lsz hr), fun i hi => ?_⟩
  obtain ⟨h1, o, h2, h3⟩ := mem_ready.1 hi
  have hil : i < l.length := by have := (Array.getElem?_eq_some_iff.1 h2).1; simpa using this
  have hls : i < listed.size := by rw [hI.lsz]; exact hil
  have hf : listed.getD i false = false := by simpa [Array.getD, hls] using h1
  have h2' : l[i]? = some o := by rw [← ho]; exact h2
  obtain ⟨F, hF⟩ : ∃ F, Fs[i]? = some F := ⟨Fs[i]'(by omega), by simp [show i < Fs.length by omega]⟩
  obtain ⟨lk, hop, hlk⟩ := hob i o F h2' hF
  -- what its operands are known to be
  have hfacts : ∀ s ∈ o.looksAt l.toArray, (lk s).F (a.tmps.getD s undef) w := by
   intro s hs
   rcases hlk s with ⟨j, o', F', hj, hoj, hFj, hd, e⟩ | ⟨hno, e⟩
   ·rw [e]
    have hlst : listed.getD j false = true := by
     rcases hok.two i j o o' h2 (by rw [ho]; exact hoj) hj with ⟨ed, he, hb, hon⟩ | ⟨h4, _⟩
     ·rw [← hon]; exact h3 ed he hb
     ·exact absurd hs (h4 s hd)
    have := hI.fact j o' F' hoj hFj hlst
    simpa [hd] using this
   ·rw [e]
    refine hI.rest s (fun j o' hoj hl hd => ?_)
    rcases Nat.lt_trichotomy j i with hji | hji | hji
    ·exact hno j o' hji hoj hd
    ·subst hji; rw [hf] at hl; cases hl
    ·rcases hok.two j i o' o (by rw [ho]; exact hoj) h2 hji with ⟨ed, he, hb, hon⟩ | ⟨_, h4⟩
     ·have := hI.down j o' hoj hl ed he hb
      rw [hon, hf] at this; cases this
     ·exact h4 s hd hs
  -- the state behind it
  have hstep : ∀ v w', F.F v w' → Below w.heap.size w w' → wpAny P .any l.toArray Q fuel (listed.setIfInBounds i true) (a.put o.dst v) w' := by
   intro v w' hFv hbel
   have hroom : ∀ t, o.dst = some t → t < a.tmps.size := fun t ht => by rw [hI.tsz]; exact hok.room i o t h2 ht
   refine ih _ _ _ ⟨u.erase i, hnd.erase i, fun k => ?_, ?_⟩ ?_
   ·rw [hnd.mem_erase_iff, hu k]
    constructor
    ·rintro ⟨hki, hkl, hkf⟩
     exact ⟨hkl, by rw [getD_set_ne false (Ne.symm hki)]; exact hkf⟩
    ·rintro ⟨hkl, hkf⟩
     have hki : k ≠ i := by
      rintro rfl
      simp [Array.getD, hls] at hkf
     exact ⟨hki, hkl, by rw [getD_set_ne false (Ne.symm hki)] at hkf; exact hkf⟩
   ·have : i ∈ u := (hu i).2 ⟨hil, hf⟩
    rw [List.length_erase_of_mem this]; omega
   ·have hset : ∀ j, (listed.setIfInBounds i true).getD j false = true → j = i ∨ listed.getD j false = true := fun j hj => by
     by_cases e : j = i
     ·exact .inl e
     ·rw [getD_set_ne false (Ne.symm e)] at hj; exact .inr hj
    refine ⟨hI.bel.trans (hbel.mono (Nat.le_trans hB hI.bel.size)), ?_, ?_, by simpa using hI.lsz, ?_, ?_, ?_⟩
    ·rw [← hI.tsz]; cases o.dst <;> simp [Act.put]
    ·rw [← hI.dfs]; cases o.dst <;> simp [Act.put]
    ·intro j oj Fj hoj hFj hlj
     by_cases e : j = i
     ·subst e
      rw [h2'] at hoj; injection hoj with hoj; subst hoj
      rw [hF] at hFj; injection hFj with hFj; subst hFj
      cases hd : o.dst with
      | none => exact (hok.has j o h2 hd).elim
      | some d => simp only []; rw [put_getD _ _ _ _ (by rw [← hd]; exact hroom)]; simpa using hFv
     ·have hl' := (hset j hlj).resolve_left e
      have h5 := Fj.st _ _ _ (hI.fact j oj Fj hoj hFj hl') hbel
      cases hd : oj.dst with
      | none => simpa [hd] using h5
      | some d =>
       simp only [hd] at h5 ⊢
       rw [put_getD _ _ _ _ hroom, if_neg (fun h6 => e (hok.dsts j i oj o d (by rw [ho]; exact hoj) h2 hd h6))]
       exact h5
    ·intro d hd
     have hne : o.dst ≠ some d := hd i o h2' (by simp [Array.getD, hls])
     rw [put_getD _ _ _ _ hroom, if_neg hne]
     refine hI.rest d (fun j oj hoj hl => hd j oj hoj ?_)
     by_cases e : j = i
     ·subst e; simp [Array.getD, hls]
     ·rw [getD_set_ne false (Ne.symm e)]; exact hl
    ·intro j oj hoj hlj e he hb
     have key : listed.getD e.on false = true := by
      rcases hset j hlj with h4 | h4
      ·subst h4
       rw [h2'] at hoj; injection hoj with hoj; subst hoj
       exact h3 e he hb
      ·exact hI.down j oj hoj h4 e he hb
     have hne : e.on ≠ i := fun h => by rw [h, hf] at key; cases key
     rw [getD_set_ne false (Ne.symm hne)]; exact key
  have hthis := hop a w hI.bel hfacts
  unfold wpOp
  rw [h2]
  simp only []
  split
  ·rename_i hw
   rw [if_pos hw] at hthis
   left
   refine Oper.wp_safe ?_
   have h5 := Oper.wp_mono (K' := wpAny P .any l.toArray Q fuel (listed.setIfInBounds i true)) (fun a' w' ⟨v, e, h6, h7⟩ => by rw [e]; exact hstep v w' h6 h7) hthis
   exact h5
  ·rename_i hw
   rw [if_neg hw] at hthis
   exact hstep undef w hthis (Below.refl _ _)

/-- What holds while a region runs that ends in one operation behind all others. -/
structure RInvT (n : Nat) (l : List Oper) (Fs : List SF) (B : Nat) (w0 : World) (a0 : Act) (listed : Array Bool) (a : Act) (w : World) : Prop where
 bel : Below B w0 w
 tsz : a.tmps.size = n
 dfs : a.defers = a0.defers
 lsz : listed.size = l.length + 1
 fact : ∀ (j : Nat) o F, l[j]? = some o → Fs[j]? = some F → listed.getD j false = true → F.F (match o.dst with | some d => a.tmps.getD d undef | none => undef) w
 rest : ∀ d, (∀ (j : Nat) o, l[j]? = some o → listed.getD j false = true → o.dst ≠ some d) → a.tmps.getD d undef = a0.tmps.getD d undef
 down : ∀ (j : Nat) o, l[j]? = some o → listed.getD j false = true → ∀ e ∈ o.after, Region.binds .any e = true → listed.getD e.on false = true

/-- A region whose last operation comes behind all others. -/
def okT (n : Nat) (l : List Oper) (ol : Oper) : Bool :=
 okR n l.toArray && ol.guard.isNone && ol.after.all (fun e => !Region.binds .any e || decide (e.on < l.length)) && (List.range l.length).all (fun i => (ol.after.any fun e => Region.binds .any e && e.on == i) || (List.range l.length).any (fun k => decide (i < k) && match l[k]? with | some ok => ok.after.any (fun e => Region.binds .any e && e.on == i) | none => false)) &&
  l.all (fun o => match o.guard with | some (j, _) => decide (j < l.length) | none => true) && (match ol.op with | .select .. => false | _ => true)
structure OkT (n : Nat) (l : List Oper) (ol : Oper) : Prop where
 back : ∀ (i : Nat) oi, l[i]? = some oi → ∀ e ∈ oi.after, Region.binds .any e = true → e.on < i
 room : ∀ (i : Nat) oi d, l[i]? = some oi → oi.dst = some d → d < n
 has : ∀ (i : Nat) oi, l[i]? = some oi → oi.dst ≠ none
 two : ∀ (i j : Nat) oi oj, l[i]? = some oi → l[j]? = some oj → j < i → (∃ e ∈ oi.after, Region.binds .any e = true ∧ e.on = j) ∨ ((∀ d, oj.dst = some d → d ∉ oi.looksAt (l ++ [ol]).toArray) ∧ (∀ d, oi.dst = some d → d ∉ oj.looksAt (l ++ [ol]).toArray))
 dsts : ∀ (i j : Nat) oi oj d, l[i]? = some oi → l[j]? = some oj → oi.dst = some d → oj.dst = some d → i = j
 lastGuard : ol.guard = none
 lastBack : ∀ e ∈ ol.after, Region.binds .any e = true → e.on < l.length
 lastAll : ∀ j, j < l.length → (∃ e ∈ ol.after, Region.binds .any e = true ∧ e.on = j) ∨ ∃ k ok, j < k ∧ l[k]? = some ok ∧ ∃ e ∈ ok.after, Region.binds .any e = true ∧ e.on = j
theorem looksAt_tail {l : List Oper} {ol o : Oper} (ho : o ∈ l) (hg : l.all (fun o => match o.guard with | some (j, _) => decide (j < l.length) | none => true) = true) : o.looksAt (l ++ [ol]).toArray = o.looksAt l.toArray := by
 unfold Oper.looksAt
 congr 1
 have h := List.all_eq_true.1 hg o ho
 cases hgd : o.guard with
 | none => rfl
 | some p =>
  obtain ⟨j, b⟩ := p
  simp only [hgd, decide_eq_true_eq] at h
  simp [List.getElem?_append_left h]
theorem okT_spec {n : Nat} {l : List Oper} {ol : Oper} (h : okT n l ol = true) : OkT n l ol := by
 unfold okT at h
 simp only [Bool.and_eq_true] at h
 obtain ⟨⟨⟨⟨⟨h1, h2⟩, h3⟩, h4⟩, h5⟩, h6⟩ := h
 have hr := okR_spec h1
 have hm : ∀ (i : Nat) oi, l[i]? = some oi → l.toArray[i]? = some oi := fun i oi h => by simpa using h
 refine ⟨fun i oi h => hr.back i oi (hm i oi h), fun i oi d h => hr.room i oi d (hm i oi h), fun i oi h => hr.has i oi (hm i oi h), ?_, fun i j oi oj d h k => hr.dsts i j oi oj d (hm i oi h) (hm j oj k), by simpa using h2, ?_, ?_⟩
 ·intro i j oi oj hi hj hji
  rw [looksAt_tail (List.mem_of_getElem? hi) h5, looksAt_tail (List.mem_of_getElem? hj) h5]
  exact hr.two i j oi oj (hm i oi hi) (hm j oj hj) hji
 ·intro e he hb
  rw [Array.all_eq_true_iff_forall_mem] at h3
  simpa [hb] using h3 e he
 ·intro j hj
  rw [List.all_eq_true] at h4
  have := h4 j (List.mem_range.2 hj)
  rw [Bool.or_eq_true] at this
  rcases this with this | this
  ·rw [Array.any_eq_true] at this
   obtain ⟨x, hx, h7⟩ := this
   simp only [Bool.and_eq_true, beq_iff_eq] at h7
   exact .inl ⟨ol.after[x], Array.getElem_mem hx, h7⟩
  ·rw [List.any_eq_true] at this
   obtain ⟨k, _, h8⟩ := this
   simp only [Bool.and_eq_true, decide_eq_true_eq] at h8
   obtain ⟨hjk, h9⟩ := h8
   cases hk : l[k]? with
   | none => rw [hk] at h9; cases h9
   | some ok =>
    rw [hk] at h9
    simp only [] at h9
    rw [Array.any_eq_true] at h9
    obtain ⟨x, hx, h7⟩ := h9
    simp only [Bool.and_eq_true, beq_iff_eq] at h7
    exact .inr ⟨k, ok, hjk, hk, ok.after[x], Array.getElem_mem hx, h7⟩
theorem wpAny_factsT {l : List Oper} {ol : Oper} {Fs : List SF} {n B : Nat} {w0 : World} {a0 : Act} {Q : Exit → Act → World → Prop} (hok : OkT n l ol) (hlen : l.length = Fs.length) (hB : B ≤ w0.heap.size)
  (hob : ∀ (k : Nat) o F, l[k]? = some o → Fs[k]? = some F → ∃ lk, opOb P (l ++ [ol]).toArray B w0 o F lk ∧
   ∀ s, (∃ (j : Nat) (o' : Oper) (F' : SF), j < k ∧ l[j]? = some o' ∧ Fs[j]? = some F' ∧ o'.dst = some s ∧ lk s = F') ∨ ((∀ (j : Nat) (o' : Oper), j < k → l[j]? = some o' → o'.dst ≠ some s) ∧ lk s = SF.is (a0.tmps.getD s undef)))
  (hsz : a0.tmps.size = n) (hfin : ∀ w, Below B w0 w → fin (fun a w => ol.wp P a w (Q .normal) Q) l Fs a0 w) :
  ∀ (fuel : Nat) (listed : Array Bool) (a : Act) (w : World), (∃ u : List Nat, u.Nodup ∧ (∀ i, i ∈ u ↔ i < l.length ∧ listed.getD i false = false) ∧ u.length < fuel) →
   RInvT n l Fs B w0 a0 listed a w → listed.getD l.length false = false → wpAny P .any (l ++ [ol]).toArray Q fuel listed a w := by
 have ho : ∀ (i : Nat), i < l.length → (l ++ [ol]).toArray[i]? = l[i]? := fun i hi => by simp [List.getElem?_append_left hi]
 have hol : (l ++ [ol]).toArray[l.length]? = some ol := by simp
 -- all listed: the end
 have hend : ∀ (listed : Array Bool) (a : Act) (w : World), RInvT n l Fs B w0 a0 listed a w → (∀ i, i < l.length → listed.getD i false = true) → ol.wp P a w (Q .normal) Q := by
  intro listed a w hI hall
  refine fin_use l Fs a0 hlen (hfin w hI.bel) (fun j o F h1 h2 => hI.fact j o F h1 h2 (hall j (List.getElem?_eq_some_iff.1 h1).1)) (hsz.trans hI.tsz.symm) hI.dfs.symm ?_ (fun j o d h1 h2 => by rw [hI.tsz]; exact hok.room j o d h1 h2)
  intro d hd
  exact (hI.rest d (fun j o h1 _ => hd j o h1)).symm
 have hone : ∀ (listed : Array Bool), listed.size = l.length + 1 → (∀ i, i ∈ Region.ready .any (l ++ [ol]).toArray listed → i = l.length) → listed.getD l.length false = false → ∀ i, i < l.length → listed.getD i false = true := by
  intro listed hls hr _ i
  induction i using Nat.strongRecOn with
  | ind i ih =>
   intro hi
   cases hc : listed.getD i false with
   | true => rfl
   | false =>
    exfalso
    have hil : i < listed.size := by omega
    have h1 : i ∈ Region.ready .any (l ++ [ol]).toArray listed := mem_ready.2 ⟨by simpa [Array.getD, hil] using hc, l[i], by rw [ho i hi]; simp [hi], fun e he hb => ih e.on (hok.back i l[i] (by simp [hi]) e he hb) (by have := hok.back i l[i] (by simp [hi]) e he hb; omega)⟩
    have := hr i h1; omega
 intro fuel
 induction fuel with
 | zero =>
  intro listed a w ⟨u, _, hu, hul⟩
  omega
 | succ fuel ih =>
  intro listed a w ⟨u, hnd, hu, hul⟩ hI hlast
  have hsz2 : listed.size = l.length + 1 := hI.lsz
  refine ⟨fun hr => ?_, fun i hi => ?_⟩
  ·exfalso
   have hall := hone listed hsz2 (fun i hi => by rw [hr] at hi; cases hi) hlast
   have : l.length ∈ Region.ready .any (l ++ [ol]).toArray listed := mem_ready.2 ⟨by simpa [Array.getD, hsz2] using hlast, ol, hol, fun e he hb => hall e.on (hok.lastBack e he hb)⟩
   rw [hr] at this; cases this
  obtain ⟨h1, o, h2, h3⟩ := mem_ready.1 hi
  by_cases hil : i < l.length
  case neg =>
   have hi2 : i < (l ++ [ol]).toArray.size := (Array.getElem?_eq_some_iff.1 h2).1
   have hil2 : i = l.length := by simp at hi2; omega
   subst hil2
   rw [hol] at h2; injection h2 with h2; subst h2
   have hall0 : ∀ d j, l.length - j = d → j < l.length → listed.getD j false = true := by
    intro d
    induction d using Nat.strongRecOn with
    | ind d ihd =>
     intro j hd hj
     rcases hok.lastAll j hj with ⟨e, he, hb, hon⟩ | ⟨k, ok, hjk, hk, e, he, hb, hon⟩
     ·rw [← hon]; exact h3 e he hb
     ·have hkl : k < l.length := (List.getElem?_eq_some_iff.1 hk).1
      rw [← hon]; exact hI.down k ok hk (ihd (l.length - k) (by omega) k rfl hkl) e he hb
   have hall : ∀ j, j < l.length → listed.getD j false = true := fun j hj => hall0 _ j rfl hj
   have hQ := hend listed a w hI hall
   unfold wpOp
   rw [hol]
   simp only []
   rw [if_pos (by simp [Region.wanted, hok.lastGuard])]
   left
   refine Oper.wp_mono (fun a' w' hq => ?_) hQ
   have hr0 : Region.ready .any (l ++ [ol]).toArray (listed.setIfInBounds l.length true) = [] := by
    rw [List.eq_nil_iff_forall_not_mem]
    intro k hk
    obtain ⟨hk1, ok, hk2, _⟩ := mem_ready.1 hk
    have hk3 : k < (l ++ [ol]).toArray.size := (Array.getElem?_eq_some_iff.1 hk2).1
    have hk4 : k < l.length + 1 := by simpa using hk3
    by_cases e : k = l.length
    ·subst e; simp [Array.getD, hsz2] at hk1
    ·have := hall k (by omega)
     rw [getD_set_ne true (Ne.symm e)] at hk1
     have hks : k < listed.size := by omega
     simp [Array.getD, hks] at hk1 this
     rw [hk1] at this; cases this
   cases fuel with
   | zero => exact ⟨hr0, hq⟩
   | succ f => exact ⟨fun _ => hq, fun k hk => by rw [hr0] at hk; cases hk⟩
  have hls : i < listed.size := by omega
  have hf : listed.getD i false = false := by simpa [Array.getD, hls] using h1
  have h2' : l[i]? = some o := by rw [← ho i hil]; exact h2
  obtain ⟨F, hF⟩ : ∃ F, Fs[i]? = some F := ⟨Fs[i]'(by omega), by simp [show i < Fs.length by omega]⟩
  obtain ⟨lk, hop, hlk⟩ := hob i o F h2' hF
  -- what its operands are known to be
  have hfacts : ∀ s ∈ o.looksAt (l ++ [ol]).toArray, (lk s).F (a.tmps.getD s undef) w := by
   intro s hs
   rcases hlk s with ⟨j, o', F', hj, hoj, hFj, hd, e⟩ | ⟨hno, e⟩
   ·rw [e]
    have hlst : listed.getD j false = true := by
     rcases hok.two i j o o' h2' hoj hj with ⟨ed, he, hb, hon⟩ | ⟨h4, _⟩
     ·rw [← hon]; exact h3 ed he hb
     ·exact absurd hs (h4 s hd)
    have := hI.fact j o' F' hoj hFj hlst
    simpa [hd] using this
   ·rw [e]
    refine hI.rest s (fun j o' hoj hl hd => ?_)
    rcases Nat.lt_trichotomy j i with hji | hji | hji
    ·exact hno j o' hji hoj hd
    ·subst hji; rw [hf] at hl; cases hl
    ·rcases hok.two j i o' o hoj h2' hji with ⟨ed, he, hb, hon⟩ | ⟨_, h4⟩
     ·have := hI.down j o' hoj hl ed he hb
      rw [hon, hf] at this; cases this
     ·exact h4 s hd hs
  -- the state behind it
  have hstep : ∀ v w', F.F v w' → Below w.heap.size w w' → wpAny P .any (l ++ [ol]).toArray Q fuel (listed.setIfInBounds i true) (a.put o.dst v) w' := by
   intro v w' hFv hbel
   have hroom : ∀ t, o.dst = some t → t < a.tmps.size := fun t ht => by rw [hI.tsz]; exact hok.room i o t h2' ht
   refine ih _ _ _ ⟨u.erase i, hnd.erase i, fun k => ?_, ?_⟩ ?_ (by rw [getD_set_ne false (show i ≠ l.length by omega)]; exact hlast)
   ·rw [hnd.mem_erase_iff, hu k]
    constructor
    ·rintro ⟨hki, hkl, hkf⟩
     exact ⟨hkl, by rw [getD_set_ne false (Ne.symm hki)]; exact hkf⟩
    ·rintro ⟨hkl, hkf⟩
     have hki : k ≠ i := by
      rintro rfl
      simp [Array.getD, hls] at hkf
     exact ⟨hki, hkl, by rw [getD_set_ne false (Ne.symm hki)] at hkf; exact hkf⟩
   ·have hiu : i ∈ u := (hu i).2 ⟨hil, hf⟩
    have := List.length_pos_of_mem hiu
    rw [List.length_erase_of_mem hiu]; omega
   ·have hset : ∀ j, (listed.setIfInBounds i true).getD j false = true → j = i ∨ listed.getD j false = true := fun j hj => by
     by_cases e : j = i
     ·exact .inl e
     ·rw [getD_set_ne false (Ne.symm e)] at hj; exact .inr hj
    refine ⟨hI.bel.trans (hbel.mono (Nat.le_trans hB hI.bel.size)), ?_, ?_, by simpa using hI.lsz, ?_, ?_, ?_⟩
    ·rw [← hI.tsz]; cases o.dst <;> simp [Act.put]
    ·rw [← hI.dfs]; cases o.dst <;> simp [Act.put]
    ·intro j oj Fj hoj hFj hlj
     by_cases e : j = i
     ·subst e
      rw [h2'] at hoj; injection hoj with hoj; subst hoj
      rw [hF] at hFj; injection hFj with hFj; subst hFj
      cases hd : o.dst with
      | none => exact (hok.has j o h2' hd).elim
      | some d => simp only []; rw [put_getD _ _ _ _ (by rw [← hd]; exact hroom)]; simpa using hFv
     ·have hl' := (hset j hlj).resolve_left e
      have h5 := Fj.st _ _ _ (hI.fact j oj Fj hoj hFj hl') hbel
      cases hd : oj.dst with
      | none => simpa [hd] using h5
      | some d =>
       simp only [hd] at h5 ⊢
       rw [put_getD _ _ _ _ hroom, if_neg (fun h6 => e (hok.dsts j i oj o d hoj h2' hd h6))]
       exact h5
    ·intro d hd
     have hne : o.dst ≠ some d := hd i o h2' (by simp [Array.getD, hls])
     rw [put_getD _ _ _ _ hroom, if_neg hne]
     refine hI.rest d (fun j oj hoj hl => hd j oj hoj ?_)
     by_cases e : j = i
     ·subst e; simp [Array.getD, hls]
     ·rw [getD_set_ne false (Ne.symm e)]; exact hl
    ·intro j oj hoj hlj e he hb
     have key : listed.getD e.on false = true := by
      rcases hset j hlj with h4 | h4
      ·subst h4
       rw [h2'] at hoj; injection hoj with hoj; subst hoj
       exact h3 e he hb
      ·exact hI.down j oj hoj h4 e he hb
     have hne : e.on ≠ i := fun h => by rw [h, hf] at key; cases key
     rw [getD_set_ne false (Ne.symm hne)]; exact key
  have hthis := hop a w hI.bel hfacts
  unfold wpOp
  rw [h2]
  simp only []
  split
  ·rename_i hw
   rw [if_pos hw] at hthis
   left
   refine Oper.wp_safe ?_
   have h5 := Oper.wp_mono (K' := wpAny P .any (l ++ [ol]).toArray Q fuel (listed.setIfInBounds i true)) (fun a' w' ⟨v, e, h6, h7⟩ => by rw [e]; exact hstep v w' h6 h7) hthis
   exact h5
  ·rename_i hw
   rw [if_neg hw] at hthis
   exact hstep undef w hthis (Below.refl _ _)

/-- A REGION THAT DRAWS ITS ORDER: shown operation by operation. -/
theorem wp_region_facts {id n B : Nat} {l : List Oper} (Fs : List SF) {Q : Exit → Act → World → Prop} {a : Act} {w w0 : World} (hm : P.follows .mixedOrders = true) (hok : okR n l.toArray = true) (hsz : a.tmps.size = n)
  (hB : B ≤ w0.heap.size) (hbel : Below B w0 w) (hob : obs P l.toArray B w0 a l Fs []) (hfin : ∀ w', Below B w0 w' → fin (Q .normal) l Fs a w') : (Code.region id l.toArray true).wp P Q a w := by
 have h1 := obs_at (pre0 := []) (P := P) (B := B) l Fs [] [] [] rfl (fun s => .inr ⟨by simp, rfl⟩) hob
 refine wp_region_any hm (wpAny_facts (okR_spec hok) h1.1 hB (fun k o F h2 h3 => ?_) hsz hfin _ _ a _ ⟨List.range l.length, List.nodup_range, fun i => ?_, by simp⟩ ⟨?_, hsz, rfl, by simp, ?_, fun _ _ => rfl, ?_⟩)
 ·obtain ⟨lk, h4, h5⟩ := h1.2 k o F h2 h3
  refine ⟨lk, h4, fun s => ?_⟩
  simpa using h5 s
 ·simp [Array.getD]
 ·exact hbel.drew
 ·intro j o F h2 h3 h4
  simp [Array.getD] at h4
 ·intro j o h2 h4
  simp [Array.getD] at h4

/-- A REGION THAT DRAWS ITS ORDER AND ENDS IN ONE OPERATION BEHIND ALL OTHERS (a store): what it does is shown last. -/
theorem wp_region_factsT {id n B : Nat} {l : List Oper} {ol : Oper} (Fs : List SF) {Q : Exit → Act → World → Prop} {a : Act} {w w0 : World} (hm : P.follows .mixedOrders = true) (hok : okT n l ol = true) (hsz : a.tmps.size = n)
  (hB : B ≤ w0.heap.size) (hbel : Below B w0 w) (hob : obs P (l ++ [ol]).toArray B w0 a l Fs []) (hfin : ∀ w', Below B w0 w' → fin (fun a w => ol.wp P a w (Q .normal) Q) l Fs a w') : (Code.region id (l ++ [ol]).toArray true).wp P Q a w := by
 have h1 := obs_at (pre0 := []) (P := P) (B := B) l Fs [] [] [] rfl (fun s => .inr ⟨by simp, rfl⟩) hob
 refine wp_region_any hm (wpAny_factsT (okT_spec hok) h1.1 hB (fun k o F h2 h3 => ?_) hsz hfin _ _ a _ ⟨List.range l.length, List.nodup_range, fun i => ?_, by simp⟩ ⟨?_, hsz, rfl, by simp, ?_, fun _ _ => rfl, ?_⟩ (by simp [Array.getD]))
 ·obtain ⟨lk, h4, h5⟩ := h1.2 k o F h2 h3
  refine ⟨lk, h4, fun s => ?_⟩
  simpa using h5 s
 ·simp [Array.getD]
 ·exact hbel.drew
 ·intro j o F h2 h3 h4
  simp [Array.getD] at h4
 ·intro j o h2 h4
  simp [Array.getD] at h4
end

section
variable {P : Program} {ops : Array Oper} {B : Nat} {w0 : World} {o : Oper} {F : SF} {lk : Tmp → SF}
/-- What is known of the operands. -/
def Opd (lk : Tmp → SF) (o : Oper) (a : Act) (w : World) : Prop := ∀ s ∈ o.op.operands.toList.filterMap (fun | .tmp t => some t | _ => none), (lk s).F (a.tmps[s]?.getD undef) w
theorem getD_eq (a : Array Value) (s : Nat) : a.getD s undef = a[s]?.getD undef := by
 unfold Array.getD
 by_cases h : s < a.size <;> simp [h]
/-- An operation without a guard. -/
theorem opOb_of (hg : o.guard = none) (h : ∀ a w, Below B w0 w → Opd lk o a w →
  o.wp P a w (fun a' w' => ∃ v, a' = a.put o.dst v ∧ F.F v w' ∧ Below w.heap.size w w') (fun _ _ _ => False)) : opOb P ops B w0 o F lk := by
 intro a w hb hf
 rw [if_pos (by simp [Region.wanted, hg])]
 exact h a w hb fun s hs => by rw [← getD_eq]; exact hf s (List.mem_append_left _ hs)
/-- It yields v, the world as it was. -/
theorem opOb_val (v : Value) (hg : o.guard = none) (h : ∀ a w, Below B w0 w → Opd lk o a w → (execOp a.eval o).run P w = .ok (.value v) w) : opOb P ops B w0 o (SF.is v) lk :=
 opOb_of hg fun a w hb hf => by
  unfold Oper.wp
  rw [h a w hb hf]
  exact ⟨v, rfl, rfl, Below.refl _ _⟩
/-- It calls f. -/
theorem opOb_call (hg : o.guard = none) (h : ∀ a w, Below B w0 w → Opd lk o a w → ∃ f args, (execOp a.eval o).run P w = .ok (.enter f args) w ∧ Calls P f args w fun e w' => ∃ v, e = .returned v ∧ F.F v w' ∧ Below w.heap.size w w') : opOb P ops B w0 o F lk :=
 opOb_of hg fun a w hb hf => by
  obtain ⟨f, args, hr, hc⟩ := h a w hb hf
  unfold Oper.wp
  rw [hr]
  exact hc.mono fun e w' ⟨v, he, hk⟩ => by subst he; exact ⟨v, rfl, hk⟩
theorem opOb_move (x : Tmp) (hg : o.guard = none) (hop : o.op = .move (.tmp x) ∨ o.op = .assign (.tmp x)) (hF : lk x = F) : opOb P ops B w0 o F lk :=
 opOb_of hg fun a w _ hf => by
  have h := hf x (by rcases hop with h | h <;> rw [h] <;> simp [Op.operands])
  rw [hF, ← getD_eq] at h
  rcases hop with hop | hop
  ·unfold Oper.wp; rw [show (execOp a.eval o).run P w = .ok (.value (a.eval (.tmp x))) w by unfold execOp; rw [hop]; rfl]
   exact ⟨_, rfl, h, Below.refl _ _⟩
  ·unfold Oper.wp; rw [show (execOp a.eval o).run P w = .ok (.value (a.eval (.tmp x))) w by unfold execOp; rw [hop]; rfl]
   exact ⟨_, rfl, h, Below.refl _ _⟩
/-- Its guard says yes. -/
theorem opOb_on {dst : Option Tmp} {op : Op} {type : TypeId} {pos : String} {after : Array Edge} {j : Nat} {want : Bool} (d : Tmp) (hj : (ops[j]?).bind (·.dst) = some d) (hlk : lk d = SF.is (.bool want))
  (h : opOb P ops B w0 ⟨dst, op, type, pos, after, none⟩ F lk) : opOb P ops B w0 ⟨dst, op, type, pos, after, some (j, want)⟩ F lk := by
 intro a w hb hf
 have h1 := hf d (by unfold Oper.looksAt; refine List.mem_append_right _ ?_; simp [hj])
 rw [hlk] at h1
 have hw : Region.wanted (⟨dst, op, type, pos, after, some (j, want)⟩ : Oper) (yielded ops a.tmps) = true := by
  have h2 : a.tmps.getD d undef = .bool want := h1
  have h3 : a.tmps[d]? = some (.bool want) := by
   rw [getD_eq] at h2
   cases h4 : a.tmps[d]? with
   | none => rw [h4] at h2; cases h2
   | some v => rw [h4] at h2; simp at h2; rw [h2]
  simp [Region.wanted, yielded, hj, h3]
 rw [if_pos hw]
 have h5 := h a w hb (fun s hs => hf s (by
  unfold Oper.looksAt at hs ⊢
  simp only [List.append_nil] at hs
  exact List.mem_append_left _ hs))
 rw [if_pos (by rfl)] at h5
 exact h5
end
end Go.Proofs.YtomilckcgmhfcaaDoor
/- Whole rows out of and into the memory, by value. -/
namespace Go.Proofs.YtomilckcgmhfcaaDoor
set_option maxRecDepth 40000
open Go.RowKit

/-- What a row is when a whole array is laid into it. -/
theorem World.rowIs_setRow {w : World} {b : Nat} {t : TypeId} {n : Nat} {f : Nat → Value} (h : w.rowIs b t n f) (cs : Array Value) (hn : cs.size = n) (g : Nat → Value) (hg : ∀ i, i < n → cs[i]? = some (g i)) : (w.setRow b cs).rowIs b t n g := by
 obtain ⟨c, hc, hs, hf⟩ := h
 refine ⟨cs, ?_, hn, hg⟩
 unfold World.setRow
 simp [Array.getElem?_modify, hc]
variable {P : Program}
theorem run_load_row {w : World} {b : Nat} {t : TypeId} {n : Nat} {f : Nat → Value} (h : w.rowIs b t n f) {d : TypeDesc} (hu : P.underlying t = some d) (hd : (match d with | .struct _ | .array _ _ => true | _ => false) = true) (hi : (P.info? t).map (·.size) = some n)
  (cs : Array Value) (hn : cs.size = n) (hf : ∀ i, i < n → cs[i]? = some (f i)) :
  (Instr.loadAt t (.pointer (some ⟨b, 0, none⟩))).run P w = .ok (.agg cs) w := by
 obtain ⟨c, hc, hs, hf'⟩ := h
 have e : c = cs := by
  apply Array.ext_getElem?
  intro i
  by_cases hi : i < n
  ·rw [hf' i hi, hf i hi]
  ·rw [Array.getElem?_eq_none (by omega), Array.getElem?_eq_none (by omega)]
 subst e
 simp only [Instr.loadAt, Instr.sureAddr, Sem.run_bind, Sem.run_pure, Result.andThen]
 exact run_loadVar_row w b t t c (0, 0) d hc hu hd (by rw [hi, hs])
theorem get_getD (cs : Array Value) (i : Nat) (h : i < cs.size) : cs[i]? = some (cs.getD i undef) := by simp [h]
theorem size_setRow (w : World) (g : Nat) (cs : Array Value) : (w.setRow g cs).heap.size = w.heap.size := by unfold World.setRow; simp
/-- A result that lies in memory. -/
theorem ret_row {fn : Func} {R : Ending → World → Prop} {a : Act} {w : World} {p : Tmp} {ty : TypeId} (h : fn.results = #[.cell p ty]) (g : Nat) (t : TypeId) (cs : Array Value) (fr : Nat × Nat) (d : TypeDesc)
  (hp : a.tmps.getD p undef = .pointer (some ⟨g, 0, none⟩)) (hg : w.heap[g]? = some (.cells cs t fr))
  (hu : P.underlying ty = some d) (hd : (match d with | .struct _ | .array _ _ => true | _ => false) = true) (hi : (P.info? ty).map (·.size) = some cs.size) (hdf : a.defers = [])
  (hR : R (.returned (.agg cs)) w) : bodyPost P fn R .ret a w :=
 bodyPost_ret (results_cell_row h a.tmps w g t cs fr d hp hg hu hd hi) hdf hR
end Go.Proofs.YtomilckcgmhfcaaDoor
