/- The sums of package look, and of its reference. -/
import Derived.Test.YtecgogeebponlaaDoorLookWalks
namespace Go.Proofs.YtecgogeebponlaaDoor
set_option maxRecDepth 40000
open Go.RowKit

/-- The validators of a state that lies as F. -/
structure VOk (w : World) (B : Nat) (F : Nat → Value) (A : Option Addr) (n c : Nat) (V : Nat → Value) : Prop where
  f : F 721 = .slice A n c
  rd : Rd w B A (n * 86) V
  sc : ∀ i, i < n → Sc (fun q => V (i * 86 + q)) 73
  le : n ≤ maxLen
theorem StOk.vok {w : World} {B : Nat} {s : StV} (h : StOk w B s) : VOk w B s.F s.aV s.nV s.cV s.V := ⟨h.f11, h.rV, h.scV, by have := h.lV; omega⟩
section
variable {w w' : World} {B : Nat} {F : Nat → Value} {A : Option Addr} {n c : Nat} {V : Nat → Value}
theorem VOk.below (h : VOk w B F A n c V) (hb : Below B w w') : VOk w' B F A n c V := ⟨h.f, h.rd.below hb, h.sc, h.le⟩
theorem VOk.more {B' : Nat} (h : VOk w B F A n c V) (hB : B ≤ B') : VOk w B' F A n c V := ⟨h.f, h.rd.more hB, h.sc, h.le⟩
theorem VOk.at_ (h : VOk w B F A n c V) {i : Nat} (hi : i < n) : ∃ ad, A = some ad ∧ ad.block < B ∧ (∀ q, q < 86 → w.cell? ((ad.add (i * 86)).add q) = some (V (i * 86 + q))) ∧ ∀ q, 0 < q → q < 86 → w.cell? ⟨(ad.add (i * 86)).block, (ad.add (i * 86)).off + q, none⟩ = some (V (i * 86 + q)) := by
  obtain ⟨ad, e, hb, hc⟩ := h.rd (by omega)
  have h1 : ∀ q, q < 86 → w.cell? ((ad.add (i * 86)).add q) = some (V (i * 86 + q)) := fun q hq => by
    rw [add_of_add]
    exact hc _ (by omega)
  refine ⟨ad, e, hb, h1, fun q h0 hq => ?_⟩
  rw [← h1 q hq]
  congr 1
  generalize ad.add (i * 86) = b
  unfold Addr.add
  rw [if_neg (by omega)]
end
def effF (V : Nat → Value) (i : Nat) : Nat := nat (V (i * 86 + 80))
/-- What the validator at an index weighs. -/
def wt (V : Nat → Value) (n j : Nat) : Nat := if j < n then effF V j else 0
def totB (t : Nat) : Nat := if t < 1000000000 then 1000000000 else t
theorem totB_max (t : Nat) : ((totB t : Nat) : Int) = if ((t : Nat) : Int) < 1000000000 then 1000000000 else ((t : Nat) : Int) := by
  unfold totB
  by_cases h : t < 1000000000
  · rw [if_pos h, if_pos (by omega)]; rfl
  · rw [if_neg h, if_neg (by omega)]
theorem sumTo_small {z : Nat → Nat} {k : Nat} (h : ∀ i, i < k → z i ≤ 32000000000) : sumTo z k ≤ k * 32000000000 := by
  induction k with
  | zero => exact Nat.zero_le _
  | succ k ih =>
    have h1 := ih fun i hi => h i (by omega)
    have h2 := h k (Nat.lt_succ_self k)
    show sumTo z k + z k ≤ _
    omega
theorem wt_le {V : Nat → Value} {n : Nat} (h : ∀ i, i < n → effF V i ≤ 32000000000) (j : Nat) : wt V n j ≤ 32000000000 := by
  unfold wt
  split
  · exact h j ‹_›
  · exact Nat.zero_le _

def isAct (V : Nat → Value) (e i : Nat) : Bool := actB (nat (V (i * 86 + 83))) e (nat (V (i * 86 + 84)))
def aw (V : Nat → Value) (e i : Nat) : Nat := if isAct V e i then effF V i else 0
def ac (V : Nat → Value) (e i : Nat) : Nat := if isAct V e i then 1 else 0
def actIx (V : Nat → Value) (e n : Nat) : List Nat := (List.range n).filter (isAct V e)
def ax (V : Nat → Value) (e n : Nat) : Nat → Nat := fun j => (actIx V e n).getD j 0
theorem actIx_t {V : Nat → Value} {e n : Nat} (h : isAct V e n = true) : actIx V e (n + 1) = actIx V e n ++ [n] := by
  unfold actIx; rw [List.range_succ, List.filter_append]; simp [h]
theorem actIx_f {V : Nat → Value} {e n : Nat} (h : isAct V e n = false) : actIx V e (n + 1) = actIx V e n := by
  unfold actIx; rw [List.range_succ, List.filter_append]; simp [h]
theorem actIx_len (V : Nat → Value) (e n : Nat) : (actIx V e n).length = sumTo (ac V e) n := by
  induction n with
  | zero => rfl
  | succ n ih =>
    show _ = sumTo (ac V e) n + ac V e n
    cases h : isAct V e n with
    | true => rw [actIx_t h, List.length_append, ih]; simp [ac, h]
    | false => rw [actIx_f h, ih]; simp [ac, h]
theorem actIx_le (V : Nat → Value) (e n : Nat) : (actIx V e n).length ≤ n := by
  have := List.length_filter_le (isAct V e) (List.range n)
  simpa [actIx] using this
theorem actIx_lt {V : Nat → Value} {e n j : Nat} (h : j ∈ actIx V e n) : j < n := by
  unfold actIx at h; exact List.mem_range.1 (List.mem_filter.1 h).1
theorem ax_lt {V : Nat → Value} {e n j : Nat} (h : j < (actIx V e n).length) : ax V e n j < n := by
  refine actIx_lt (V := V) (e := e) ?_
  unfold ax
  rw [show (actIx V e n).getD j 0 = (actIx V e n)[j] by simp [List.getD, h]]
  exact List.getElem_mem h
theorem sumTo_congr {y z : Nat → Nat} {n : Nat} (h : ∀ i, i < n → y i = z i) : sumTo y n = sumTo z n := by
  induction n with
  | zero => rfl
  | succ n ih => show sumTo y n + y n = sumTo z n + z n; rw [ih fun i hi => h i (by omega), h n (by omega)]
theorem sumTo_ax (V : Nat → Value) (e : Nat) {N : Nat} : ∀ n, n ≤ N → sumTo (fun k => wt V N (ax V e n k)) (actIx V e n).length = sumTo (aw V e) n
  | 0, _ => rfl
  | n + 1, h => by
    have ih := sumTo_ax V e (N := N) n (by omega)
    show _ = sumTo (aw V e) n + aw V e n
    cases hc : isAct V e n with
    | true =>
      have e1 : (actIx V e (n + 1)).length = (actIx V e n).length + 1 := by rw [actIx_t hc, List.length_append]; rfl
      rw [e1]
      show sumTo _ (actIx V e n).length + wt V N (ax V e (n + 1) (actIx V e n).length) = _
      have e2 : ax V e (n + 1) (actIx V e n).length = n := by unfold ax; rw [actIx_t hc]; simp [List.getD]
      rw [e2, ← ih]
      refine congr (congrArg _ (sumTo_congr fun i hi => ?_)) ?_
      · congr 1
        unfold ax
        rw [actIx_t hc]
        simp only [List.getD]
        rw [List.getElem?_append_left hi]
      · simp only [wt, aw, hc, if_true]; rw [if_pos (show n < N by omega)]
    | false =>
      have e1 : ax V e (n + 1) = ax V e n := by unfold ax; rw [actIx_f hc]
      rw [e1, actIx_f hc, ih]
      simp [aw, hc]
theorem ax_cat {V : Nat → Value} {e n : Nat} (h : isAct V e n = true) : ∀ i, i < (actIx V e n).length + 1 → catF (actIx V e n).length (fun j => .int .u64 ((ax V e n j : Nat) : Int)) (fun _ => .int .u64 ((n : Nat) : Int)) i = .int .u64 ((ax V e (n + 1) i : Nat) : Int) := fun i hi => by
  unfold catF ax
  rw [actIx_t h]
  simp only [List.getD]
  by_cases h1 : i < (actIx V e n).length
  · rw [if_pos h1, List.getElem?_append_left h1]
  · rw [if_neg h1, List.getElem?_append_right (by omega), show i - (actIx V e n).length = 0 by omega]; simp
end Go.Proofs.YtecgogeebponlaaDoor
