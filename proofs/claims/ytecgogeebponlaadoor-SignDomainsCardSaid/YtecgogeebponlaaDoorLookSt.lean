/- A state that came in: its cells, and what its slices hold. -/
import Derived.Test.YtecgogeebponlaaDoorDeep
namespace Go.Proofs.YtecgogeebponlaaDoor
set_option maxRecDepth 40000
open Go.RowKit

/-- Each cell of type T that is a number or a bool is one. -/
def Sc (F : Nat → Value) (T : TypeId) : Prop := ∀ i l, leafAt Tryd.prog 8 T i = some l → match Tryd.prog.underlying l with
  | some (.int .u64) => F i = .int .u64 ((nat (F i) : Nat) : Int) ∧ nat (F i) < 18446744073709551616
  | some (.int .u8) => F i = .int .u8 ((nat (F i) : Nat) : Int) ∧ nat (F i) < 256
  | some .bool => F i = .bool (bln (F i))
  | _ => True
theorem Sc.u64 {F : Nat → Value} {T : TypeId} (h : Sc F T) (i : Nat) (hl : leafAt Tryd.prog 8 T i = some 22) : F i = .int .u64 ((nat (F i) : Nat) : Int) ∧ nat (F i) < 18446744073709551616 := by
  have h1 := h i _ hl
  rw [Tryd.underlying22] at h1
  exact h1
theorem Sc.u8 {F : Nat → Value} {T : TypeId} (h : Sc F T) (i : Nat) (hl : leafAt Tryd.prog 8 T i = some 5) : F i = .int .u8 ((nat (F i) : Nat) : Int) ∧ nat (F i) < 256 := by
  have h1 := h i _ hl
  rw [Tryd.underlying5] at h1
  exact h1
theorem Sc.bool {F : Nat → Value} {T : TypeId} (h : Sc F T) (i : Nat) (hl : leafAt Tryd.prog 8 T i = some 4) : F i = .bool (bln (F i)) := by
  have h1 := h i _ hl
  rw [Tryd.underlying4] at h1
  exact h1
theorem TyF.sc {H : Type} {enc : TypeId × Value → H} {w : World} {F : Nat → Value} {T : TypeId} (h : TyF enc Tryd.prog w F T) : Sc F T := fun i l hl => by
  split
  · rename_i hu; exact h.u64 i hl hu
  · rename_i hu; exact h.u8 i hl hu
  · rename_i hu; exact h.bool i hl hu
  · trivial
theorem Sc.congr {F G : Nat → Value} {T : TypeId} (h : Sc F T) (e : ∀ i, F i = G i) : Sc G T := by
  obtain rfl : F = G := funext e
  exact h

theorem Sc.one {F : Nat → Value} {T : TypeId} {n : Nat} (h : Sc F T) (hall : (List.range n).all (fun q => match leafAt Tryd.prog 8 T q with | some l => l == 22 || l == 5 || l == 4 | none => false) = true) : ∀ q, q < n → ∃ v, (arr n F)[q]? = some v ∧ v.oneCell' = true := fun q hq => by
  refine ⟨F q, arr_at _ _ _ hq, ?_⟩
  have h1 := List.all_eq_true.1 hall q (List.mem_range.2 hq)
  cases hl : leafAt Tryd.prog 8 T q with
  | none => rw [hl] at h1; cases h1
  | some l =>
    rw [hl] at h1
    simp only [Bool.or_eq_true, beq_iff_eq] at h1
    rcases h1 with (rfl | rfl) | rfl
    · rw [(h.u64 q hl).1]; rfl
    · rw [(h.u8 q hl).1]; rfl
    · rw [h.bool q hl]; rfl
/-- What a state reads as. -/
structure StV where
  F : Nat → Value
  aV : Option Addr
  nV : Nat
  cV : Nat
  V : Nat → Value
  aB : Option Addr
  nB : Nat
  cB : Nat
  Bal : Nat → Value
  aP : Option Addr
  nP : Nat
  cP : Nat
  Prv : Nat → Value
  aC : Option Addr
  nC : Nat
  cC : Nat
  Cur : Nat → Value
  aS : Option Addr
  nS : Nat
  cS : Nat
  Sco : Nat → Value
  aH : Option Addr
  nH : Nat
  cH : Nat
  His : Nat → Value
  aE : Option Addr
  nE : Nat
  cE : Nat
  Vot : Nat → Value

structure StOk (w : World) (B : Nat) (s : StV) : Prop where
  sc : Sc s.F 49
  f7 : s.F 653 = .slice s.aH s.nH s.cH
  f9 : s.F 719 = .slice s.aE s.nE s.cE
  f11 : s.F 721 = .slice s.aV s.nV s.cV
  f12 : s.F 722 = .slice s.aB s.nB s.cB
  f15 : s.F 987 = .slice s.aP s.nP s.cP
  f16 : s.F 988 = .slice s.aC s.nC s.cC
  f21 : s.F 1092 = .slice s.aS s.nS s.cS
  lV : s.nV ≤ s.cV ∧ s.cV ≤ maxLen
  lB : s.nB ≤ s.cB ∧ s.cB ≤ maxLen
  lP : s.nP ≤ s.cP ∧ s.cP ≤ maxLen
  lC : s.nC ≤ s.cC ∧ s.cC ≤ maxLen
  lS : s.nS ≤ s.cS ∧ s.cS ≤ maxLen
  lH : s.nH ≤ s.cH ∧ s.cH ≤ maxLen
  lE : s.nE ≤ s.cE ∧ s.cE ≤ maxLen
  rV : Rd w B s.aV (s.nV * 86) s.V
  rB : Rd w B s.aB s.nB s.Bal
  rP : Rd w B s.aP s.nP s.Prv
  rC : Rd w B s.aC s.nC s.Cur
  rS : Rd w B s.aS s.nS s.Sco
  rH : Rd w B s.aH (s.nH * 32) s.His
  rE : Rd w B s.aE (s.nE * 65) s.Vot
  scV : ∀ i, i < s.nV → Sc (fun q => s.V (i * 86 + q)) 73
  scB : ∀ i, i < s.nB → s.Bal i = .int .u64 ((nat (s.Bal i) : Nat) : Int) ∧ nat (s.Bal i) < 18446744073709551616
  scP : ∀ i, i < s.nP → s.Prv i = .int .u8 ((nat (s.Prv i) : Nat) : Int) ∧ nat (s.Prv i) < 256
  scC : ∀ i, i < s.nC → s.Cur i = .int .u8 ((nat (s.Cur i) : Nat) : Int) ∧ nat (s.Cur i) < 256
  scS : ∀ i, i < s.nS → s.Sco i = .int .u64 ((nat (s.Sco i) : Nat) : Int) ∧ nat (s.Sco i) < 18446744073709551616
  scH : ∀ i, i < s.nH → Sc (fun q => s.His (i * 32 + q)) 24
  scE : ∀ i, i < s.nE → Sc (fun q => s.Vot (i * 65 + q)) 34

theorem StOk.below {w w' : World} {B : Nat} {s : StV} (h : StOk w B s) (hb : Below B w w') : StOk w' B s :=
  { h with rV := h.rV.below hb, rB := h.rB.below hb, rP := h.rP.below hb, rC := h.rC.below hb, rS := h.rS.below hb, rH := h.rH.below hb, rE := h.rE.below hb }
theorem StOk.more {w : World} {B B' : Nat} {s : StV} (h : StOk w B s) (hB : B ≤ B') : StOk w B' s :=
  { h with rV := h.rV.more hB, rB := h.rB.more hB, rP := h.rP.more hB, rC := h.rC.more hB, rS := h.rS.more hB, rH := h.rH.more hB, rE := h.rE.more hB }
/-- The state as a value. -/
abbrev StV.val (s : StV) : Value := .agg (arr 1957 s.F)

theorem st_open {H : Type} {enc : TypeId × Value → H} {w : World} {v : Value} {r : Reach} {b0 : Nat} {d : DataW H} {ps : List MemPlace} (hval : Value.okWide Tryd.prog w r b0 49 v) (h : DataW.Trod enc Tryd.prog w 0 (fun _ => true) true 49 v d ps) :
    ∃ s, v = s.val ∧ StOk w w.heap.size s := by
  obtain ⟨F, rfl, ht⟩ := open_deep Tryd.underlying49 rfl (n := 1957) (by kernel_rfl) hval h
  obtain ⟨aH, nH, cH, His, e7, lH, mH, rH, tH, -⟩ := ht.slice 653 (l := 32) (by kernel_rfl) Tryd.underlying32 (k := 32) (by kernel_rfl) (by omega)
  obtain ⟨aE, nE, cE, Vot, e9, lE, mE, rE, tE, -⟩ := ht.slice 719 (l := 35) (by kernel_rfl) Tryd.underlying35 (k := 65) (by kernel_rfl) (by omega)
  obtain ⟨aV, nV, cV, V, e11, lV, mV, rV, tV, -⟩ := ht.slice 721 (l := 36) (by kernel_rfl) Tryd.underlying36 (k := 86) (by kernel_rfl) (by omega)
  obtain ⟨aB, nB, cB, Bal, e12, lB, mB, rB, tB, -⟩ := ht.slice 722 (l := 37) (by kernel_rfl) Tryd.underlying37 (k := 1) (by kernel_rfl) (by omega)
  obtain ⟨aP, nP, cP, Prv, e15, lP, mP, rP, tP, -⟩ := ht.slice 987 (l := 39) (by kernel_rfl) Tryd.underlying39 (k := 1) (by kernel_rfl) (by omega)
  obtain ⟨aC, nC, cC, Cur, e16, lC, mC, rC, tC, -⟩ := ht.slice 988 (l := 39) (by kernel_rfl) Tryd.underlying39 (k := 1) (by kernel_rfl) (by omega)
  obtain ⟨aS, nS, cS, Sco, e21, lS, mS, rS, tS, -⟩ := ht.slice 1092 (l := 37) (by kernel_rfl) Tryd.underlying37 (k := 1) (by kernel_rfl) (by omega)
  have one : ∀ {n : Nat} {G : Nat → Value} {e : TypeId}, (∀ j, j < n → TyF enc Tryd.prog w (fun q => G (j * 1 + q)) e) → ∀ j, j < n → TyF enc Tryd.prog w (fun q => G (j + q)) e := fun h j hj => by simpa using h j hj
  refine ⟨⟨F, aV, nV, cV, V, aB, nB, cB, Bal, aP, nP, cP, Prv, aC, nC, cC, Cur, aS, nS, cS, Sco, aH, nH, cH, His, aE, nE, cE, Vot⟩, rfl, ?_⟩
  rw [Nat.mul_one] at rB rP rC rS
  exact {
    sc := ht.sc, f7 := e7, f9 := e9, f11 := e11, f12 := e12, f15 := e15, f16 := e16, f21 := e21
    lV := ⟨lV, mV⟩, lB := ⟨lB, mB⟩, lP := ⟨lP, mP⟩, lC := ⟨lC, mC⟩, lS := ⟨lS, mS⟩, lH := ⟨lH, mH⟩, lE := ⟨lE, mE⟩
    rV := rV, rB := rB, rP := rP, rC := rC, rS := rS, rH := rH, rE := rE
    scV := fun i hi => (tV i hi).sc
    scB := fun i hi => (one tB i hi).u64 0 (l := 22) (by kernel_rfl) Tryd.underlying22
    scP := fun i hi => (one tP i hi).u8 0 (l := 5) (by kernel_rfl) Tryd.underlying5
    scC := fun i hi => (one tC i hi).u8 0 (l := 5) (by kernel_rfl) Tryd.underlying5
    scS := fun i hi => (one tS i hi).u64 0 (l := 22) (by kernel_rfl) Tryd.underlying22
    scH := fun i hi => (tH i hi).sc
    scE := fun i hi => (tE i hi).sc }
end Go.Proofs.YtecgogeebponlaaDoor
