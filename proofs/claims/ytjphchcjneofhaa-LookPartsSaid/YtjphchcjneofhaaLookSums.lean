/- The sums of package look, and of its reference. -/
import Derived.Test.YtjphchcjneofhaaLookWalks
namespace Go.Proofs.Ytjphchcjneofhaa
open Go.RowKit

/-- The validators of a state that lies as F. -/
structure VOk (w : World) (B : Nat) (F : Nat → Value) (A : Option Addr) (n c : Nat) (V : Nat → Value) : Prop where
  f : F 721 = .slice A n c
  rd : Rd w B A (n * 86) V
  sc : ∀ i, i < n → Sc (fun q => V (i * 86 + q)) 60
  le : n ≤ maxLen
theorem StOk.vok {w : World} {B : Nat} {s : StV} (h : StOk w B s) : VOk w B s.F s.aV s.nV s.cV s.V := ⟨h.f11, h.rV, h.scV, by have := h.lV; omega⟩
section
variable {w w' : World} {B : Nat} {F : Nat → Value} {A : Option Addr} {n c : Nat} {V : Nat → Value}
theorem VOk.below (h : VOk w B F A n c V) (hb : Below B w w') : VOk w' B F A n c V := ⟨h.f, h.rd.below hb, h.sc, h.le⟩
theorem VOk.more {B' : Nat} (h : VOk w B F A n c V) (hB : B ≤ B') : VOk w B' F A n c V := ⟨h.f, h.rd.more hB, h.sc, h.le⟩
theorem VOk.at_ (h : VOk w B F A n c V) {i : Nat} (hi : i < n) : ∃ ad, A = some ad ∧ ad.block < B ∧ (∀ q, q < 86 → w.cell? ((ad.add (i * 86)).add q) = some (V (i * 86 + q))) ∧ ∀ q, 0 < q → q < 86 → w.cell? ⟨(ad.add (i * 86)).block, (ad.add (i * 86)).off + q, none⟩ = some (V (i * 86 + q)) := by
  obtain ⟨ad, e, hb, hc⟩ := h.rd (by omega)
  have h1 : ∀ q, q < 86 → w.cell? ((ad.add (i * 86)).add q) = some (V (i * 86 + q)) := fun q hq => by
    rw [add_of_add]
    exact hc _ (by omega)
  refine ⟨ad, e, hb, h1, fun q h0 hq => ?_⟩
  rw [← h1 q hq]
  congr 1
  generalize ad.add (i * 86) = b
  unfold Addr.add
  rw [if_neg (by omega)]
end
def effF (V : Nat → Value) (i : Nat) : Nat := nat (V (i * 86 + 80))
/-- What the validator at an index weighs. -/
def wt (V : Nat → Value) (n j : Nat) : Nat := if j < n then effF V j else 0
def totB (t : Nat) : Nat := if t < 1000000000 then 1000000000 else t
theorem totB_max (t : Nat) : ((totB t : Nat) : Int) = if ((t : Nat) : Int) < 1000000000 then 1000000000 else ((t : Nat) : Int) := by
  unfold totB
  by_cases h : t < 1000000000
  · rw [if_pos h, if_pos (by omega)]; rfl
  · rw [if_neg h, if_neg (by omega)]
theorem sumTo_small {z : Nat → Nat} {k : Nat} (h : ∀ i, i < k → z i ≤ 32000000000) : sumTo z k ≤ k * 32000000000 := by
  induction k with
  | zero => exact Nat.zero_le _
  | succ k ih =>
    have h1 := ih fun i hi => h i (by omega)
    have h2 := h k (Nat.lt_succ_self k)
    show sumTo z k + z k ≤ _
    omega
theorem wt_le {V : Nat → Value} {n : Nat} (h : ∀ i, i < n → effF V i ≤ 32000000000) (j : Nat) : wt V n j ≤ 32000000000 := by
  unfold wt
  split
  · exact h j ‹_›
  · exact Nat.zero_le _

set_option maxHeartbeats 1000000 in
theorem total_look (F : Nat → Value) (A : Option Addr) (n c : Nat) (V : Nat → Value) (C : Option Addr) (m cm : Nat) (x : Nat → Nat) (w : World) (hV : VOk w w.heap.size F A n c V) (he : ∀ i, i < n → effF V i ≤ 32000000000)
    (hw : Rd w w.heap.size C m (fun i => .int .u64 ((x i : Nat) : Int))) (hx : ∀ i, i < m → x i < 18446744073709551616) (hm : m ≤ 65536) :
    Calls Try.prog 10 #[.agg (arr 1957 F), .slice C m cm] w fun r w' => r = .returned (.int .u64 ((totB (sumTo (fun k => wt V n (x k)) m) : Nat) : Int)) ∧ Below w.heap.size w w' := by
  have HV := Lib.hid hV
  have HE := Lib.hid he
  have HW := Lib.hid hw
  have HX := Lib.hid hx
  have hle := hV.le
  unfold maxLen at hle
  clear hV he hw hx
  go_enter Try.func10, Try.ntmps10
  go_wp2_with (refine wpList_box rfl _ _ rfl 1957 F rfl ?_; intro w1 hr1 hb1; have HR1 := Lib.hid hr1; have HB1 := Lib.hid hb1; clear hr1 hb1)
  go_loopw [5, 10] (fun t i wr => ∃ k : Nat, t = .int .u64 ((sumTo (fun k => wt V n (x k)) k : Nat) : Int) ∧ i = .int .i64 (k : Int) ∧ k ≤ m ∧ wr = w1) (fun _ i _ => m - (intOf i).toNat)
  case atStart => exact ⟨0, rfl, rfl, Nat.zero_le _, rfl⟩
  case round =>
    obtain ⟨k, rfl, rfl, hk, rfl⟩ := hrel
    have hts := sumTo_small (z := fun k => wt V n (x k)) (k := k) fun i _ => wt_le HE.out (x i)
    by_cases h1 : k < m
    · have hst : sumTo (fun k => wt V n (x k)) (k + 1) = sumTo (fun k => wt V n (x k)) k + wt V n (x k) := rfl
      have HST := Lib.hid hst
      clear hst
      obtain ⟨ad, rfl, hb, hc⟩ := (HW.out.below HB1.out).at_ h1
      have hxk := HX.out k h1
      have hwt := wt_le HE.out (x k)
      have h721 := HR1.out.cell (i := 721) (by omega)
      rw [HV.out.f] at h721
      generalize sumTo (fun k => wt V n (x k)) k = t at *
      by_cases h2 : x k < n
      · obtain ⟨ad2, rfl, hb2, -, hc2⟩ := (HV.out.below HB1.out).at_ h2
        have hc3 := hc2 80 (by omega) (by omega)
        obtain ⟨e80, -⟩ := (HV.out.sc _ h2).u64 80 (by kernel_rfl)
        have hwe : wt V n (x k) = nat (V (x k * 86 + 80)) := if_pos h2
        rw [e80, ← hwe] at hc3
        generalize wt V n (x k) = y at *
        generalize x k = j at *
        clear hc2 e80 hwe
        go_wp2_with fail
        go_roundw
        case rel => exact ⟨k + 1, by rw [HST.out]; go_num, by go_num, by omega, True.intro⟩
        case measure => simp [intOf]; omega
      · have hwe : wt V n (x k) = 0 := if_neg h2
        rw [hwe] at HST
        generalize x k = j at *
        clear hwe hwt
        go_wp2_with fail
        go_roundw
        case rel => exact ⟨k + 1, by rw [HST.out]; go_num, by go_num, by omega, True.intro⟩
        case measure => simp [intOf]; omega
    · obtain rfl : m = k := by omega
      generalize hT : sumTo (fun k => wt V n (x k)) m = t at *
      have HT := Lib.hid hT
      clear hT
      go_wp2_with (refine wpList_max rfl rfl .u64 _ _ _ rfl rfl (totB_max t) ?_)
      go_ret
      rw [HT.out]
      exact ⟨rfl, HB1.out⟩

set_option maxHeartbeats 1000000 in
theorem total_ref (F : Nat → Value) (A : Option Addr) (n c : Nat) (V : Nat → Value) (C : Option Addr) (m cm : Nat) (x : Nat → Nat) (w : World) (hV : VOk w w.heap.size F A n c V) (he : ∀ i, i < n → effF V i ≤ 32000000000)
    (hw : Rd w w.heap.size C m (fun i => .int .u64 ((x i : Nat) : Int))) (hx : ∀ i, i < m → x i < 18446744073709551616) (hm : m ≤ 65536) :
    Calls Try.prog 11 #[.agg (arr 1957 F), .slice C m cm] w fun r w' => r = .returned (.int .u64 ((totB (sumTo (fun k => wt V n (x k)) m) : Nat) : Int)) ∧ Below w.heap.size w w' := by
  have HV := Lib.hid hV
  have HE := Lib.hid he
  have HW := Lib.hid hw
  have HX := Lib.hid hx
  have hle := hV.le
  unfold maxLen at hle
  clear hV he hw hx
  go_enter Try.func11, Try.ntmps11
  go_wp2_with (refine wpList_box rfl _ _ rfl 1957 F rfl ?_; intro w1 hr1 hb1; have HR1 := Lib.hid hr1; have HB1 := Lib.hid hb1; clear hr1 hb1)
  go_loopw [5, 6] (fun t i wr => ∃ k d : Nat, t = .int .u64 ((sumTo (fun k => wt V n (x k)) k : Nat) : Int) ∧ i = .int .i64 (k : Int) ∧ k ≤ m ∧ wr = w1.drewN d) (fun _ i _ => m - (intOf i).toNat)
  case atStart => exact ⟨0, 0, rfl, rfl, Nat.zero_le _, rfl⟩
  case round =>
    obtain ⟨k, d, rfl, rfl, hk, rfl⟩ := hrel
    have hts := sumTo_small (z := fun k => wt V n (x k)) (k := k) fun i _ => wt_le HE.out (x i)
    by_cases h1 : k < m
    · have hst : sumTo (fun k => wt V n (x k)) (k + 1) = sumTo (fun k => wt V n (x k)) k + wt V n (x k) := rfl
      have HST := Lib.hid hst
      clear hst
      obtain ⟨ad, rfl, hb, hc⟩ := (HW.out.below HB1.out).at_ h1
      have hxk := HX.out k h1
      have hwt := wt_le HE.out (x k)
      have h721 := HR1.out.cell (i := 721) (by omega)
      rw [HV.out.f] at h721
      generalize sumTo (fun k => wt V n (x k)) k = t at *
      by_cases h2 : x k < n
      · obtain ⟨ad2, rfl, hb2, -, hc2⟩ := (HV.out.below HB1.out).at_ h2
        have hc3 := hc2 80 (by omega) (by omega)
        obtain ⟨e80, -⟩ := (HV.out.sc _ h2).u64 80 (by kernel_rfl)
        have hwe : wt V n (x k) = nat (V (x k * 86 + 80)) := if_pos h2
        rw [e80, ← hwe] at hc3
        generalize wt V n (x k) = y at *
        generalize x k = j at *
        clear hc2 e80 hwe
        go_wp2_with fail
        go_quiet (fail)
        go_wp2_with fail
        go_quiet (fail)
        go_wp2_with fail
        go_roundw
        case rel => exact ⟨k + 1, _, by rw [HST.out]; go_num, by go_num, by omega, rfl⟩
        case measure => simp [intOf]; omega
      · have hwe : wt V n (x k) = 0 := if_neg h2
        rw [hwe] at HST
        generalize x k = j at *
        clear hwe hwt
        go_wp2_with fail
        go_quiet (fail)
        go_wp2_with fail
        go_roundw
        case rel => exact ⟨k + 1, _, by rw [HST.out]; go_num, by go_num, by omega, rfl⟩
        case measure => simp [intOf]; omega
    · obtain rfl : m = k := by omega
      generalize hT : sumTo (fun k => wt V n (x k)) m = t at *
      by_cases h2 : t < 1000000000
      · have HT := Lib.hid (show totB (sumTo (fun k => wt V n (x k)) m) = 1000000000 by rw [hT]; exact if_pos h2)
        have hd : decide ((t : Int) < 1000000000) = true := decide_eq_true (by omega)
        clear hT hts h2
        go_wp2_with fail
        go_ret
        rw [HT.out]
        exact ⟨rfl, below_drewN HB1.out d⟩
      · have HT := Lib.hid (show totB (sumTo (fun k => wt V n (x k)) m) = t by rw [hT]; exact if_neg h2)
        have hd : decide ((t : Int) < 1000000000) = false := decide_eq_false (by omega)
        clear hT hts h2
        go_wp2_with fail
        go_ret
        rw [HT.out]
        exact ⟨rfl, below_drewN HB1.out d⟩

/-! ## Who is active -/
def isAct (V : Nat → Value) (e i : Nat) : Bool := actB (nat (V (i * 86 + 83))) e (nat (V (i * 86 + 84)))
def aw (V : Nat → Value) (e i : Nat) : Nat := if isAct V e i then effF V i else 0
def ac (V : Nat → Value) (e i : Nat) : Nat := if isAct V e i then 1 else 0
def actIx (V : Nat → Value) (e n : Nat) : List Nat := (List.range n).filter (isAct V e)
def ax (V : Nat → Value) (e n : Nat) : Nat → Nat := fun j => (actIx V e n).getD j 0
theorem actIx_t {V : Nat → Value} {e n : Nat} (h : isAct V e n = true) : actIx V e (n + 1) = actIx V e n ++ [n] := by
  unfold actIx; rw [List.range_succ, List.filter_append]; simp [h]
theorem actIx_f {V : Nat → Value} {e n : Nat} (h : isAct V e n = false) : actIx V e (n + 1) = actIx V e n := by
  unfold actIx; rw [List.range_succ, List.filter_append]; simp [h]
theorem actIx_len (V : Nat → Value) (e n : Nat) : (actIx V e n).length = sumTo (ac V e) n := by
  induction n with
  | zero => rfl
  | succ n ih =>
    show _ = sumTo (ac V e) n + ac V e n
    cases h : isAct V e n with
    | true => rw [actIx_t h, List.length_append, ih]; simp [ac, h]
    | false => rw [actIx_f h, ih]; simp [ac, h]
theorem actIx_le (V : Nat → Value) (e n : Nat) : (actIx V e n).length ≤ n := by
  have := List.length_filter_le (isAct V e) (List.range n)
  simpa [actIx] using this
theorem actIx_lt {V : Nat → Value} {e n j : Nat} (h : j ∈ actIx V e n) : j < n := by
  unfold actIx at h; exact List.mem_range.1 (List.mem_filter.1 h).1
theorem ax_lt {V : Nat → Value} {e n j : Nat} (h : j < (actIx V e n).length) : ax V e n j < n := by
  refine actIx_lt (V := V) (e := e) ?_
  unfold ax
  rw [show (actIx V e n).getD j 0 = (actIx V e n)[j] by simp [List.getD, h]]
  exact List.getElem_mem h
theorem sumTo_congr {y z : Nat → Nat} {n : Nat} (h : ∀ i, i < n → y i = z i) : sumTo y n = sumTo z n := by
  induction n with
  | zero => rfl
  | succ n ih => show sumTo y n + y n = sumTo z n + z n; rw [ih fun i hi => h i (by omega), h n (by omega)]
theorem sumTo_ax (V : Nat → Value) (e : Nat) {N : Nat} : ∀ n, n ≤ N → sumTo (fun k => wt V N (ax V e n k)) (actIx V e n).length = sumTo (aw V e) n
  | 0, _ => rfl
  | n + 1, h => by
    have ih := sumTo_ax V e (N := N) n (by omega)
    show _ = sumTo (aw V e) n + aw V e n
    cases hc : isAct V e n with
    | true =>
      have e1 : (actIx V e (n + 1)).length = (actIx V e n).length + 1 := by rw [actIx_t hc, List.length_append]; rfl
      rw [e1]
      show sumTo _ (actIx V e n).length + wt V N (ax V e (n + 1) (actIx V e n).length) = _
      have e2 : ax V e (n + 1) (actIx V e n).length = n := by unfold ax; rw [actIx_t hc]; simp [List.getD]
      rw [e2, ← ih]
      refine congr (congrArg _ (sumTo_congr fun i hi => ?_)) ?_
      · congr 1
        unfold ax
        rw [actIx_t hc]
        simp only [List.getD]
        rw [List.getElem?_append_left hi]
      · simp only [wt, aw, hc, if_true]; rw [if_pos (show n < N by omega)]
    | false =>
      have e1 : ax V e (n + 1) = ax V e n := by unfold ax; rw [actIx_f hc]
      rw [e1, actIx_f hc, ih]
      simp [aw, hc]
theorem ax_cat {V : Nat → Value} {e n : Nat} (h : isAct V e n = true) : ∀ i, i < (actIx V e n).length + 1 → catF (actIx V e n).length (fun j => .int .u64 ((ax V e n j : Nat) : Int)) (fun _ => .int .u64 ((n : Nat) : Int)) i = .int .u64 ((ax V e (n + 1) i : Nat) : Int) := fun i hi => by
  unfold catF ax
  rw [actIx_t h]
  simp only [List.getD]
  by_cases h1 : i < (actIx V e n).length
  · rw [if_pos h1, List.getElem?_append_left h1]
  · rw [if_neg h1, List.getElem?_append_right (by omega), show i - (actIx V e n).length = 0 by omega]; simp
end Go.Proofs.Ytjphchcjneofhaa
