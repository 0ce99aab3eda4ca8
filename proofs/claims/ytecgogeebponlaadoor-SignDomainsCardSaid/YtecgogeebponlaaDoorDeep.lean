/- A value of whatever type, read cell by cell: which leaf lies where, and what a slice in it leads to. -/
import Derived.Test.YtecgogeebponlaaDoorRow
import Derived.Test.YtecgogeebponlaaDoorHeap
import Derived.Deep.Slices
namespace Go.Proofs.YtecgogeebponlaaDoor
set_option maxRecDepth 40000
open Go.RowKit Go.ChangeShapes Go.WideShapes Go.ChangeAt Go.Deep

/-- The type of cell i of a value of type t. -/
def leafAt (P : Program) : Nat → TypeId → Nat → Option TypeId
  | 0, _, _ => none
  | f + 1, t, i => match P.underlying t with
    | some (.struct fs) => (fs.toList.find? fun x => decide (x.offset ≤ i) && decide (i < x.offset + P.cellsOf x.type)).bind fun x => leafAt P f x.type (i - x.offset)
    | some (.array n e) => if i / P.cellsOf e < n then leafAt P f e (i % P.cellsOf e) else none
    | some _ => if i = 0 then some t else none
    | none => none

def nat (v : Value) : Nat := match v with | .int _ n => n.toNat | _ => 0
def bln (v : Value) : Bool := match v with | .bool b => b | _ => false
theorem nat_int (k : IntKind) (n : Nat) : nat (.int k (n : Int)) = n := by simp [nat]
theorem arr_getD {cs : Array Value} (i : Nat) (h : i < cs.size) : cs[i]? = some (cs.getD i undef) := by simp [Array.getD, h]
theorem arr_self (cs : Array Value) : cs = arr cs.size (fun i => cs.getD i undef) := arr_of cs _ _ rfl fun i hi => arr_getD i hi

section
variable {H : Type} {enc : TypeId × Value → H} {P : Program} {w : World} {base : Nat} {spare : Nat → Bool} {held : Bool}
theorem leaf_trod : ∀ (f : Nat) (t : TypeId) (i : Nat) (l : TypeId) (fuel : Nat) (cs : List Value) (y : DataW H × List MemPlace), leafAt P f t i = some l → DataW.trod enc P w base spare held fuel t cs = some y →
    ∃ v m y', cs[i]? = some v ∧ DataW.trod enc P w base spare held m l [v] = some y'
  | 0, _, _, _, _, _, _, h, _ => by cases h
  | f + 1, t, i, l, fuel, cs, y, h, hd => by
    unfold leafAt at h
    have sub : ∀ (o k : Nat) (v : Value), ((cs.drop o).take k)[i - o]? = some v → o ≤ i → cs[i]? = some v := fun o k v hv ho => by
      rw [List.getElem?_take] at hv
      split at hv
      · rw [List.getElem?_drop] at hv; rwa [show o + (i - o) = i by omega] at hv
      · cases hv
    split at h
    · rename_i fs hu
      obtain ⟨xs, n, _, _, _, hxl, hf⟩ := DataW.trod_struct hu hd
      cases hfi : fs.toList.find? (fun x => decide (x.offset ≤ i) && decide (i < x.offset + P.cellsOf x.type)) with
      | none => rw [hfi] at h; cases h
      | some x =>
        rw [hfi] at h
        have hp := List.find?_some hfi
        simp only [Bool.and_eq_true, decide_eq_true_eq] at hp
        obtain ⟨k, hk, hkx⟩ := List.mem_iff_getElem.1 (List.mem_of_find?_eq_some hfi)
        have hk' : k < fs.size := by simpa using hk
        have h1 := hf k x (by rw [← hkx]; simp [hk'])
        rw [List.getElem?_eq_getElem (by omega)] at h1
        obtain ⟨v, m, y', hv, hy⟩ := leaf_trod f x.type (i - x.offset) l n _ _ h h1
        exact ⟨v, m, y', sub _ _ _ hv hp.1, hy⟩
    · rename_i n e hu
      split at h
      · rename_i hlt
        obtain ⟨xs, m, _, _, _, hxl, hf⟩ := DataW.trod_array hu hd
        have h1 := hf _ hlt
        rw [List.getElem?_eq_getElem (by omega)] at h1
        obtain ⟨v, m, y', hv, hy⟩ := leaf_trod f e _ l m _ _ h h1
        have hdm : i / P.cellsOf e * P.cellsOf e + i % P.cellsOf e = i := Nat.div_add_mod' i (P.cellsOf e)
        exact ⟨v, m, y', sub _ _ _ (by rwa [show i - i / P.cellsOf e * P.cellsOf e = i % P.cellsOf e by omega]) (by omega), hy⟩
      · cases h
    · rename_i d hd1 hd2 hu
      split at h
      · rename_i h0
        injection h with h
        subst h h0
        have : ∃ v, cs = [v] := by
          cases fuel with
          | zero => simp [DataW.trod] at hd
          | succ n =>
            unfold DataW.trod at hd
            rw [hu] at hd
            split at hd <;> first | exact ⟨_, rfl⟩ | (cases hd; done) | simp_all
        obtain ⟨v, rfl⟩ := this
        exact ⟨v, _, _, rfl, hd⟩
      · cases h
    · cases h
end

/-- The cells F read as a value of type T. -/
def TyF {H : Type} (enc : TypeId × Value → H) (P : Program) (w : World) (F : Nat → Value) (T : TypeId) : Prop := ∀ i l, leafAt P 8 T i = some l → ∃ m y, DataW.trod enc P w 0 (fun _ => true) true m l [F i] = some y

section
variable {H : Type} {enc : TypeId × Value → H} {P : Program} {w : World} {F : Nat → Value} {T l : TypeId}
theorem TyF.of_trod {fuel : Nat} {cs : List Value} {y : DataW H × List MemPlace} (h : DataW.trod enc P w 0 (fun _ => true) true fuel T cs = some y) (hF : ∀ i v, cs[i]? = some v → F i = v) : TyF enc P w F T := fun i l hl => by
  obtain ⟨v, m, y', hv, hy⟩ := leaf_trod 8 T i l fuel cs y hl h
  rw [hF i v hv]
  exact ⟨m, y', hy⟩
theorem TyF.int (h : TyF enc P w F T) (i : Nat) (hl : leafAt P 8 T i = some l) {k : IntKind} (hu : P.underlying l = some (.int k)) : ∃ n, F i = .int k n ∧ (Lit.int k n).wf = true := by
  obtain ⟨m, y, hy⟩ := h i l hl
  obtain ⟨n, e, _, hw⟩ := DataW.trod_int hu hy
  injection e with e _
  exact ⟨n, e, hw⟩
theorem TyF.u64 (h : TyF enc P w F T) (i : Nat) (hl : leafAt P 8 T i = some l) (hu : P.underlying l = some (.int .u64)) : F i = .int .u64 ((nat (F i) : Nat) : Int) ∧ nat (F i) < 18446744073709551616 := by
  obtain ⟨n, e, hw⟩ := h.int i hl hu
  have := wf_u64 hw
  rw [e]
  simp only [nat, Int.toNat_of_nonneg this.1, true_and]
  omega
theorem TyF.u8 (h : TyF enc P w F T) (i : Nat) (hl : leafAt P 8 T i = some l) (hu : P.underlying l = some (.int .u8)) : F i = .int .u8 ((nat (F i) : Nat) : Int) ∧ nat (F i) < 256 := by
  obtain ⟨n, e, hw⟩ := h.int i hl hu
  have := wf_u8 hw
  rw [e]
  simp only [nat, Int.toNat_of_nonneg this.1, true_and]
  omega
theorem TyF.bool (h : TyF enc P w F T) (i : Nat) (hl : leafAt P 8 T i = some l) (hu : P.underlying l = some .bool) : F i = .bool (bln (F i)) := by
  obtain ⟨m, y, hy⟩ := h i l hl
  obtain ⟨n, e, _⟩ := DataW.trod_bool hu hy
  injection e with e _
  rw [e]; rfl
/-- A slice: where it lies, and its elements' cells. -/
theorem TyF.slice (h : TyF enc P w F T) (i : Nat) (hl : leafAt P 8 T i = some l) {e : TypeId} (hu : P.underlying l = some (.slice e)) {k : Nat} (hk : P.cellsOf e = k) (hk0 : 0 < k) :
    ∃ A n c G, F i = .slice A n c ∧ n ≤ c ∧ c ≤ maxLen ∧ Rd w w.heap.size A (n * k) G ∧ (∀ j, j < n → TyF enc P w (fun q => G (j * k + q)) e) ∧ (A = none → c = 0) := by
  obtain ⟨m, y, hy⟩ := h i l hl
  rcases open_slice hu hy with ⟨hcs, _⟩ | ⟨a, len, cap, m', fuel, D, Pl, hcs, _, hlc, hcm, hm', _, hel⟩
  · injection hcs with hcs
    exact ⟨none, 0, 0, fun _ => undef, hcs, Nat.le_refl _, Nat.zero_le _, by rw [Nat.zero_mul]; exact Rd.none_, fun j hj => absurd hj (Nat.not_lt_zero _), fun _ => rfl⟩
  · injection hcs with hcs
    simp only [if_true] at hm'
    subst hm'
    obtain ⟨cf, hcf⟩ := choose_lt hel
    rw [hk] at hcf
    have hcell : ∀ j, j < m' → (cf j).length = k ∧ ∀ q, q < k → w.cell? ((a.add (j * k)).add q) = (cf j)[q]? := fun j hj => by
      have h1 := World.cells?_some (hcf j hj).1
      exact ⟨h1.2.1, h1.2.2⟩
    refine ⟨some a, len, m', fun x => (cf (x / k)).getD (x % k) undef, hcs, hlc, hcm, fun hn => ?_, fun j hj => ?_, fun h => by cases h⟩
    · have h0 : 0 < len := Nat.pos_of_mul_pos_right hn
      have hd : ∀ x, x < len * k → x / k < m' ∧ x % k < k := fun x hx => ⟨Nat.lt_of_lt_of_le (Nat.div_lt_of_lt_mul (by rwa [Nat.mul_comm k]) ) hlc, Nat.mod_lt _ hk0⟩
      have hc : ∀ x, x < len * k → w.cell? (a.add x) = some ((cf (x / k)).getD (x % k) undef) := fun x hx => by
        obtain ⟨h1, h2⟩ := hcell _ (hd x hx).1
        have h3 := h2 _ (hd x hx).2
        rw [add_of_add, Nat.div_add_mod' x k] at h3
        rw [h3]
        have : x % k < (cf (x / k)).length := by rw [h1]; exact (hd x hx).2
        simp [List.getD, this]
      exact ⟨a, rfl, by have := cell_lt (hc 0 hn); rwa [block_of_add] at this, hc⟩
    · have hjm : j < m' := by omega
      refine TyF.of_trod (hcf j hjm).2 fun q v hv => ?_
      have hq : q < k := by
        have := (hcell j hjm).1
        rcases Nat.lt_or_ge q k with h1 | h1
        · exact h1
        · rw [List.getElem?_eq_none (by omega)] at hv; cases hv
      have h1 : (j * k + q) / k = j := by rw [Nat.mul_comm, Nat.mul_add_div hk0, Nat.div_eq_of_lt hq, Nat.add_zero]
      have h2 : (j * k + q) % k = q := by rw [Nat.mul_comm, Nat.mul_add_mod, Nat.mod_eq_of_lt hq]
      show (cf ((j * k + q) / k)).getD ((j * k + q) % k) undef = v
      rw [h1, h2]
      simp [List.getD, hv]
/-- A struct or an array that came in. -/
theorem open_deep {r : Reach} {b0 : Nat} {v : Value} {d : DataW H} {ps : List MemPlace} {desc : TypeDesc} (hu : P.underlying T = some desc) (hd : (match desc with | .struct _ | .array _ _ => true | _ => false) = true) {n : Nat} (hn : P.cellsOf T = n)
    (hval : Value.okWide P w r b0 T v) (h : DataW.Trod enc P w 0 (fun _ => true) true T v d ps) : ∃ F, v = .agg (arr n F) ∧ TyF enc P w F T := by
  have hsh : ∃ cs, v = .agg cs ∧ cs.size = P.cellsOf T := by
    unfold Value.okWide at hval
    rw [hu] at hval
    cases desc <;> first | (obtain ⟨cs, e, hs, _⟩ := hval; exact ⟨cs, e, hs⟩) | (cases hd; done)
  obtain ⟨cs, rfl, hs⟩ := hsh
  obtain ⟨fuel, hf⟩ := h
  refine ⟨fun i => cs.getD i undef, by rw [← hn, ← hs, ← arr_self], TyF.of_trod hf fun i v hv => ?_⟩
  simp only [Value.cells] at hv
  rw [Array.getElem?_toList] at hv
  simp [Array.getD, Array.getElem?_eq_some_iff] at hv ⊢
  obtain ⟨h1, h2⟩ := hv
  rw [dif_pos h1]; exact h2
end
end Go.Proofs.YtecgogeebponlaaDoor
