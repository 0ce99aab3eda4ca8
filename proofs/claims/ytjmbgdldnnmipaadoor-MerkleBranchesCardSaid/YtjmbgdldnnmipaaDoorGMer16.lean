/- A part of what the proofs stand on: Deep, ListRow, SignSame, MerkleMix. -/
import Derived.Test.YtjmbgdldnnmipaaDoorGMer15
import Derived.Test.YtjmbgdldnnmipaaDoorGMer4
import Derived.Deep.Slices
import Derived.Test.YtjmbgdldnnmipaaDoorGMer12
/- A value of whatever type, read cell by cell: which leaf lies where, and what a slice in it leads to. -/
namespace Go.Proofs.YtjmbgdldnnmipaaDoor
set_option maxRecDepth 40000
open Go.RowKit Go.ChangeShapes Go.WideShapes Go.ChangeAt Go.Deep

/-- The type of cell i of a value of type t. -/
def leafAt (P : Program) : Nat → TypeId → Nat → Option TypeId
  | 0, _, _ => none
  | f + 1, t, i => match P.underlying t with
    | some (.struct fs) => (fs.toList.find? fun x => decide (x.offset ≤ i) && decide (i < x.offset + P.cellsOf x.type)).bind fun x => leafAt P f x.type (i - x.offset)
    | some (.array n e) => if i / P.cellsOf e < n then leafAt P f e (i % P.cellsOf e) else none
    | some _ => if i = 0 then some t else none
    | none => none

def nat (v : Value) : Nat := match v with | .int _ n => n.toNat | _ => 0
def bln (v : Value) : Bool := match v with | .bool b => b | _ => false
theorem nat_int (k : IntKind) (n : Nat) : nat (.int k (n : Int)) = n := by simp [nat]
theorem arr_getD {cs : Array Value} (i : Nat) (h : i < cs.size) : cs[i]? = some (cs.getD i undef) := by simp [Array.getD, h]
theorem arr_self (cs : Array Value) : cs = arr cs.size (fun i => cs.getD i undef) := arr_of cs _ _ rfl fun i hi => arr_getD i hi

section
variable {H : Type} {enc : TypeId × Value → H} {P : Program} {w : World} {base : Nat} {spare : Nat → Bool} {held : Bool}
theorem leaf_trod : ∀ (f : Nat) (t : TypeId) (i : Nat) (l : TypeId) (fuel : Nat) (cs : List Value) (y : DataW H × List MemPlace), leafAt P f t i = some l → DataW.trod enc P w base spare held fuel t cs = some y →
    ∃ v m y', cs[i]? = some v ∧ DataW.trod enc P w base spare held m l [v] = some y'
  | 0, _, _, _, _, _, _, h, _ => by cases h
  | f + 1, t, i, l, fuel, cs, y, h, hd => by
    unfold leafAt at h
    have sub : ∀ (o k : Nat) (v : Value), ((cs.drop o).take k)[i - o]? = some v → o ≤ i → cs[i]? = some v := fun o k v hv ho => by
      rw [List.getElem?_take] at hv
      split at hv
      · rw [List.getElem?_drop] at hv; rwa [show o + (i - o) = i by omega] at hv
      · cases hv
    split at h
    · rename_i fs hu
      obtain ⟨xs, n, _, _, _, hxl, hf⟩ := DataW.trod_struct hu hd
      cases hfi : fs.toList.find? (fun x => decide (x.offset ≤ i) && decide (i < x.offset + P.cellsOf x.type)) with
      | none => rw [hfi] at h; cases h
      | some x =>
        rw [hfi] at h
        have hp := List.find?_some hfi
        simp only [Bool.and_eq_true, decide_eq_true_eq] at hp
        obtain ⟨k, hk, hkx⟩ := List.mem_iff_getElem.1 (List.mem_of_find?_eq_some hfi)
        have hk' : k < fs.size := by simpa using hk
        have h1 := hf k x (by rw [← hkx]; simp [hk'])
        rw [List.getElem?_eq_getElem (by omega)] at h1
        obtain ⟨v, m, y', hv, hy⟩ := leaf_trod f x.type (i - x.offset) l n _ _ h h1
        exact ⟨v, m, y', sub _ _ _ hv hp.1, hy⟩
    · rename_i n e hu
      split at h
      · rename_i hlt
        obtain ⟨xs, m, _, _, _, hxl, hf⟩ := DataW.trod_array hu hd
        have h1 := hf _ hlt
        rw [List.getElem?_eq_getElem (by omega)] at h1
        obtain ⟨v, m, y', hv, hy⟩ := leaf_trod f e _ l m _ _ h h1
        have hdm : i / P.cellsOf e * P.cellsOf e + i % P.cellsOf e = i := Nat.div_add_mod' i (P.cellsOf e)
        exact ⟨v, m, y', sub _ _ _ (by rwa [show i - i / P.cellsOf e * P.cellsOf e = i % P.cellsOf e by omega]) (by omega), hy⟩
      · cases h
    · rename_i d hd1 hd2 hu
      split at h
      · rename_i h0
        injection h with h
        subst h h0
        have : ∃ v, cs = [v] := by
          cases fuel with
          | zero => simp [DataW.trod] at hd
          | succ n =>
            unfold DataW.trod at hd
            rw [hu] at hd
            split at hd <;> first | exact ⟨_, rfl⟩ | (cases hd; done) | simp_all
        obtain ⟨v, rfl⟩ := this
        exact ⟨v, _, _, rfl, hd⟩
      · cases h
    · cases h
end

/-- The cells F read as a value of type T. -/
def TyF {H : Type} (enc : TypeId × Value → H) (P : Program) (w : World) (F : Nat → Value) (T : TypeId) : Prop := ∀ i l, leafAt P 8 T i = some l → ∃ m y, DataW.trod enc P w 0 (fun _ => true) true m l [F i] = some y

section
variable {H : Type} {enc : TypeId × Value → H} {P : Program} {w : World} {F : Nat → Value} {T l : TypeId}
theorem TyF.of_trod {fuel : Nat} {cs : List Value} {y : DataW H × List MemPlace} (h : DataW.trod enc P w 0 (fun _ => true) true fuel T cs = some y) (hF : ∀ i v, cs[i]? = some v → F i = v) : TyF enc P w F T := fun i l hl => by
  obtain ⟨v, m, y', hv, hy⟩ := leaf_trod 8 T i l fuel cs y hl h
  rw [hF i v hv]
  exact ⟨m, y', hy⟩
theorem TyF.int (h : TyF enc P w F T) (i : Nat) (hl : leafAt P 8 T i = some l) {k : IntKind} (hu : P.underlying l = some (.int k)) : ∃ n, F i = .int k n ∧ (Lit.int k n).wf = true := by
  obtain ⟨m, y, hy⟩ := h i l hl
  obtain ⟨n, e, _, hw⟩ := DataW.trod_int hu hy
  injection e with e _
  exact ⟨n, e, hw⟩
theorem TyF.u64 (h : TyF enc P w F T) (i : Nat) (hl : leafAt P 8 T i = some l) (hu : P.underlying l = some (.int .u64)) : F i = .int .u64 ((nat (F i) : Nat) : Int) ∧ nat (F i) < 18446744073709551616 := by
  obtain ⟨n, e, hw⟩ := h.int i hl hu
  have := wf_u64 hw
  rw [e]
  simp only [nat, Int.toNat_of_nonneg this.1, true_and]
  omega
theorem TyF.u8 (h : TyF enc P w F T) (i : Nat) (hl : leafAt P 8 T i = some l) (hu : P.underlying l = some (.int .u8)) : F i = .int .u8 ((nat (F i) : Nat) : Int) ∧ nat (F i) < 256 := by
  obtain ⟨n, e, hw⟩ := h.int i hl hu
  have := wf_u8 hw
  rw [e]
  simp only [nat, Int.toNat_of_nonneg this.1, true_and]
  omega
theorem TyF.bool (h : TyF enc P w F T) (i : Nat) (hl : leafAt P 8 T i = some l) (hu : P.underlying l = some .bool) : F i = .bool (bln (F i)) := by
  obtain ⟨m, y, hy⟩ := h i l hl
  obtain ⟨n, e, _⟩ := DataW.trod_bool hu hy
  injection e with e _
  rw [e]; rfl
/-- A slice: where it lies, and its elements' cells. -/
theorem TyF.slice (h : TyF enc P w F T) (i : Nat) (hl : leafAt P 8 T i = some l) {e : TypeId} (hu : P.underlying l = some (.slice e)) {k : Nat} (hk : P.cellsOf e = k) (hk0 : 0 < k) :
    ∃ A n c G, F i = .slice A n c ∧ n ≤ c ∧ c ≤ maxLen ∧ Rd w w.heap.size A (n * k) G ∧ (∀ j, j < n → TyF enc P w (fun q => G (j * k + q)) e) ∧ (A = none → c = 0) := by
  obtain ⟨m, y, hy⟩ := h i l hl
  rcases open_slice hu hy with ⟨hcs, _⟩ | ⟨a, len, cap, m', fuel, D, Pl, hcs, _, hlc, hcm, hm', _, hel⟩
  · injection hcs with hcs
    exact ⟨none, 0, 0, fun _ => undef, hcs, Nat.le_refl _, Nat.zero_le _, by rw [Nat.zero_mul]; exact Rd.none_, fun j hj => absurd hj (Nat.not_lt_zero _), fun _ => rfl⟩
  · injection hcs with hcs
    simp only [if_true] at hm'
    subst hm'
    obtain ⟨cf, hcf⟩ := choose_lt hel
    rw [hk] at hcf
    have hcell : ∀ j, j < m' → (cf j).length = k ∧ ∀ q, q < k → w.cell? ((a.add (j * k)).add q) = (cf j)[q]? := fun j hj => by
      have h1 := World.cells?_some (hcf j hj).1
      exact ⟨h1.2.1, h1.2.2⟩
    refine ⟨some a, len, m', fun x => (cf (x / k)).getD (x % k) undef, hcs, hlc, hcm, fun hn => ?_, fun j hj => ?_, fun h => by cases h⟩
    · have h0 : 0 < len := Nat.pos_of_mul_pos_right hn
      have hd : ∀ x, x < len * k → x / k < m' ∧ x % k < k := fun x hx => ⟨Nat.lt_of_lt_of_le (Nat.div_lt_of_lt_mul (by rwa [Nat.mul_comm k]) ) hlc, Nat.mod_lt _ hk0⟩
      have hc : ∀ x, x < len * k → w.cell? (a.add x) = some ((cf (x / k)).getD (x % k) undef) := fun x hx => by
        obtain ⟨h1, h2⟩ := hcell _ (hd x hx).1
        have h3 := h2 _ (hd x hx).2
        rw [add_of_add, Nat.div_add_mod' x k] at h3
        rw [h3]
        have : x % k < (cf (x / k)).length := by rw [h1]; exact (hd x hx).2
        simp [List.getD, this]
      exact ⟨a, rfl, by have := cell_lt (hc 0 hn); rwa [block_of_add] at this, hc⟩
    · have hjm : j < m' := by omega
      refine TyF.of_trod (hcf j hjm).2 fun q v hv => ?_
      have hq : q < k := by
        have := (hcell j hjm).1
        rcases Nat.lt_or_ge q k with h1 | h1
        · exact h1
        · rw [List.getElem?_eq_none (by omega)] at hv; cases hv
      have h1 : (j * k + q) / k = j := by rw [Nat.mul_comm, Nat.mul_add_div hk0, Nat.div_eq_of_lt hq, Nat.add_zero]
      have h2 : (j * k + q) % k = q := by rw [Nat.mul_comm, Nat.mul_add_mod, Nat.mod_eq_of_lt hq]
      show (cf ((j * k + q) / k)).getD ((j * k + q) % k) undef = v
      rw [h1, h2]
      simp [List.getD, hv]
/-- A struct or an array that came in. -/
theorem open_deep {r : Reach} {b0 : Nat} {v : Value} {d : DataW H} {ps : List MemPlace} {desc : TypeDesc} (hu : P.underlying T = some desc) (hd : (match desc with | .struct _ | .array _ _ => true | _ => false) = true) {n : Nat} (hn : P.cellsOf T = n)
    (hval : Value.okWide P w r b0 T v) (h : DataW.Trod enc P w 0 (fun _ => true) true T v d ps) : ∃ F, v = .agg (arr n F) ∧ TyF enc P w F T := by
  have hsh : ∃ cs, v = .agg cs ∧ cs.size = P.cellsOf T := by
    unfold Value.okWide at hval
    rw [hu] at hval
    cases desc <;> first | (obtain ⟨cs, e, hs, _⟩ := hval; exact ⟨cs, e, hs⟩) | (cases hd; done)
  obtain ⟨cs, rfl, hs⟩ := hsh
  obtain ⟨fuel, hf⟩ := h
  refine ⟨fun i => cs.getD i undef, by rw [← hn, ← hs, ← arr_self], TyF.of_trod hf fun i v hv => ?_⟩
  simp only [Value.cells] at hv
  rw [Array.getElem?_toList] at hv
  simp [Array.getD, Array.getElem?_eq_some_iff] at hv ⊢
  obtain ⟨h1, h2⟩ := hv
  rw [dif_pos h1]; exact h2
end
end Go.Proofs.YtjmbgdldnnmipaaDoor
/- Arguments that are lists of byte arrays. -/
namespace Go.Proofs.YtjmbgdldnnmipaaDoor
set_option maxRecDepth 40000
open Go.RowKit Go.ChangeShapes Go.WideShapes Go.ChangeAt
theorem open_chunks {H : Type} {enc : TypeId × Value → H} {P : Program} {W : World} {b0 : Nat} {r : Reach} {t e u : TypeId} {k : Nat} {v : Value} {d : DataW H} {ps : List MemPlace}
    (ht : P.underlying t = some (.slice e)) (hlt : leafAt P 8 t 0 = some t) (hl : ∀ q, q < k → leafAt P 8 e q = some u) (hu : P.underlying u = some (.int .u8)) (hct : P.cellsOf e = k) (hk : 0 < k)
    (hval : Value.okWide P W r b0 t v) (hd : DataW.Trod enc P W 0 (fun _ => true) true t v d ps) :
    ∃ A n c, ∃ z : Nat → Nat, v = .slice A n c ∧ Rd W W.heap.size A (n * k) (fun i => .int .u8 ((z i : Nat) : Int)) ∧ (∀ i, z i < 256) ∧ n ≤ c ∧ (n = 0 ∨ ∃ el sp, d = .slice el sp ∧ el.length = n) := by
  obtain ⟨a, len, cap, rfl⟩ := okWide_slice ht hval
  obtain ⟨fuel, hf⟩ := hd
  have hty : TyF enc P W (fun _ => .slice a len cap) t := TyF.of_trod hf (fun i v hv => by
    have hc : (Value.slice a len cap).cells.toList = [.slice a len cap] := rfl
    rw [hc] at hv
    cases i with
    | zero => simpa using hv
    | succ i => simp at hv)
  obtain ⟨A, n, c, G, e1, hn, hm, hr, ht2, _⟩ := hty.slice 0 hlt ht hct hk
  injection e1 with e1 e2 e3
  subst e1 e2 e3
  refine ⟨a, len, cap, fun i => nat (G i) % 256, rfl, hr.congr (fun i hi => ?_), fun i => Nat.mod_lt _ (by omega), hn, ?_⟩
  · have hj : i / k < len := Nat.div_lt_of_lt_mul (by rwa [Nat.mul_comm])
    have hq : i % k < k := Nat.mod_lt _ hk
    have h2 := (ht2 (i / k) hj).u8 (i % k) (hl _ hq) hu
    have e : i / k * k + i % k = i := by rw [Nat.mul_comm]; exact Nat.div_add_mod i k
    simp only [e] at h2
    show G i = .int .u8 ((nat (G i) % 256 : Nat) : Int)
    rw [Nat.mod_eq_of_lt h2.2]
    exact h2.1
  · rcases Go.Deep.open_slice ht hf with ⟨hcs, _⟩ | ⟨a', len', cap', m', n', D, Pl, hcs, _, _, _, _, hx, _⟩
    · simp [Value.cells] at hcs; exact .inl hcs.2.1
    · simp [Value.cells] at hcs
      obtain ⟨_, e2, _⟩ := hcs
      injection hx with hx _
      exact .inr ⟨_, _, hx, by simp [e2]⟩
end Go.Proofs.YtjmbgdldnnmipaaDoor
/- Alike lists of roots, by the reference. (Printed by a program of mine.) -/
namespace Go.Proofs.YtjmbgdldnnmipaaDoor
set_option maxRecDepth 40000
open Go.RowKit
set_option maxHeartbeats 4000000 in
theorem sameR_any (n c c' : Nat) (A A' : Option Addr) (x : Nat → Nat) (w : World) (hb : Rd w w.heap.size A (n * 32) (u8v x)) (hb' : Rd w w.heap.size A' (n * 32) (u8v x)) (hn : n ≤ 9223372036854775807) :
    Calls Tryd.prog 21 #[.slice A n c, .slice A' n c'] w fun e w' => e = .returned (.bool true) ∧ Below w.heap.size w w' := by
  have HB := Lib.hid hb
  have HB2 := Lib.hid hb'
  clear hb hb'
  go_enter Tryd.func21, Tryd.ntmps21
  go_wp2_with fail
  go_loopw [5] (fun i wr => ∃ j : Nat, i = .int .i64 (j : Int) ∧ j ≤ n ∧ Below w.heap.size w wr) (fun i _ => n - (intOf i).toNat)
  case atStart => exact ⟨0, rfl, by omega, Below.refl _ _⟩
  case round =>
    obtain ⟨j, rfl, hj, hbw⟩ := hrel
    have HW := Lib.hid hbw
    clear hbw
    by_cases hjn : j < n
    · obtain ⟨ad, hA, _, _⟩ := HB.out (show 0 < n * 32 by omega)
      subst hA
      obtain ⟨ad2, hA2, _, _⟩ := HB2.out (show 0 < n * 32 by omega)
      subst hA2
      have HCL : Hid (∀ w', Below wr.heap.size wr w' → ∀ i, i < n * 32 → w'.cell? (ad.add i) = some (u8v x i)) := Lib.hid (fun w' hb i hi => (HB.out.below (HW.out.trans (hb.mono HW.out.size))).cells hi)
      have HCL2 : Hid (∀ w', Below wr.heap.size wr w' → ∀ i, i < n * 32 → w'.cell? (ad2.add i) = some (u8v x i)) := Lib.hid (fun w' hb i hi => (HB2.out.below (HW.out.trans (hb.mono HW.out.size))).cells hi)
      go_wp2_with fail
      refine wp_region_facts (B := wr.heap.size) (w0 := wr) [SF.is (.slice (some ad) (n) (c)), SF.is (.int .i64 ((j : Nat) : Int)), SF.is (.pointer (some (ad.add (j * 32)))), SF.is (.agg (arr 32 (u8v (fun i => x (j * 32 + i))))), SF.is (.slice (some ad2) (n) (c')), SF.is (.int .i64 ((j : Nat) : Int)), SF.is (.pointer (some (ad2.add (j * 32)))), SF.is (.agg (arr 32 (u8v (fun i => x (j * 32 + i))))), SF.is (.bool false)] (by kernel_rfl) (by kernel_rfl) rfl (Nat.le_refl _) (Below.refl _ _) ⟨?_, ?_, ?_, ?_, ?_, ?_, ?_, ?_, ?_, trivial⟩ ?_
      · exact (opOb_move _ rfl (.inl rfl) rfl)
      · exact (opOb_move _ rfl (.inl rfl) rfl)
      · exact opOb_idx rfl rfl (OpK.tmp rfl) (OpK.tmp rfl) (fun w => run_idxZ w Tryd.underlying24 (by kernel_rfl) ad (by omega))
      · exact opOb_ld rfl rfl (OpK.tmp rfl) (fun w' hb => run_loadAt_rd w' (ad.add (j * 32)) 32 _ _ (u8v (fun i => x (j * 32 + i))) (fun i hi => by rw [add_add]; exact HCL.out w' hb (j * 32 + i) (by omega)) Tryd.underlying23 rfl (by kernel_rfl))
      · exact (opOb_move _ rfl (.inl rfl) rfl)
      · exact (opOb_move _ rfl (.inl rfl) rfl)
      · exact opOb_idx rfl rfl (OpK.tmp rfl) (OpK.tmp rfl) (fun w => run_idxZ w Tryd.underlying24 (by kernel_rfl) ad2 (by omega))
      · exact opOb_ld rfl rfl (OpK.tmp rfl) (fun w' hb => run_loadAt_rd w' (ad2.add (j * 32)) 32 _ _ (u8v (fun i => x (j * 32 + i))) (fun i hi => by rw [add_add]; exact HCL2.out w' hb (j * 32 + i) (by omega)) Tryd.underlying23 rfl (by kernel_rfl))
      · exact opOb_neArr 5 32 .u8 (fun i => (((fun i => x (j * 32 + i)) i : Nat) : Int)) (fun i => (((fun i => x (j * 32 + i)) i : Nat) : Int)) false Tryd.underlying23 Tryd.underlying5 (by kernel_rfl) (by kernel_rfl) (by simp) rfl rfl (OpK.tmp rfl) (OpK.tmp rfl)
      · intro w' hb
        simp only [fin, SF.is, forall_eq]
        simp only [Act.put, List.setIfInBounds_toArray, List.set_cons_succ, List.set_cons_zero]
        have hend := HW.out.trans (hb.mono HW.out.size)
        go_wp2_with fail
        go_roundw
        case rel => exact ⟨j + 1, by go_num, by omega, hend⟩
        case measure => simp [intOf]; omega
    · go_wp2_with fail
      go_ret
      exact ⟨rfl, HW.out⟩
end Go.Proofs.YtjmbgdldnnmipaaDoor
/- A number that is mixed in. (Printed by a program of mine.) -/
namespace Go.Proofs.YtjmbgdldnnmipaaDoor
set_option maxRecDepth 40000
open Go.RowKit
namespace MerkleMix
theorem lay8 (v : Nat) : ∀ j, j < 32 → (if 0 ≤ j ∧ j < 0 + 8 then u8v (leB v) (j - 0) else u8v (fun _ => 0) j) = u8v (padN 8 (leB v)) j := fun j _ => by
  unfold padN
  by_cases h : j < 8
  · rw [if_pos (by omega)]; simp only [u8v]; rw [if_pos h]; rfl
  · rw [if_neg (by omega)]; simp only [u8v]; rw [if_neg h]
theorem lay_end (v : Nat) : ∀ j, j < 32 → u8v (fun i => if i < 8 then leB v i else 0) j = u8v (padN 8 (leB v)) j := fun _ _ => rfl
end MerkleMix
open MerkleMix in
set_option maxHeartbeats 4000000 in
theorem mix_look (x : Nat → Nat) (hx : ∀ i, x i < 256) (v : Nat) (w : World) (hp : ShaPkg w) :
    Calls Tryd.prog 25 #[rootV x, .int .u64 (v : Int)] w fun e w' => e = .returned (rootV (shaB (catN 32 x (padN 8 (leB v))) 64)) ∧ Below w.heap.size w w' := by
  have HP := Lib.hid hp
  have HXl := Lib.hid hx
  have HS0 := Lib.hid (HS.nil w)
  clear hp hx
  go_enter Tryd.func25, Tryd.ntmps25
  go_wp2_with (first
    | (refine wpList_boxL rfl 23 _ 2 rfl rfl HS0.out 32 (u8v x) rfl ?_; intro b2 w2 hb2 hc2 hs; have HS2 := Lib.hid hs; clear hs)
    | (refine wpList_allocL rfl 23 4 rfl rfl HS2.out (Array.replicate 32 (.int .u8 0)) (by kernel_rfl) 32 (u8v fun _ => 0) (by rfl) (zero_at 32 (.int .u8 0)) ?_; intro b4 w4 hb4 hc4 hs; have HS4 := Lib.hid hs; clear hs)
    | (refine wpList_allocL rfl 23 5 rfl rfl HS4.out (Array.replicate 32 (.int .u8 0)) (by kernel_rfl) 32 (u8v fun _ => 0) (by rfl) (zero_at 32 (.int .u8 0)) ?_; intro b5 w5 hb5 hc5 hs; have HS5 := Lib.hid hs; clear hs)
    | (go_at_call 47; refine (bytes_look v _).mono ?_; rintro e w5b ⟨rfl, hb⟩; have HS5b := Lib.hid (HS5.out.below hb); clear hb)
    | (refine wpList_allocL rfl 69 6 rfl rfl HS5b.out (Array.replicate 8 (.int .u8 0)) (by kernel_rfl) 8 (u8v fun _ => 0) (by rfl) (zero_at 8 (.int .u8 0)) ?_; intro b6 w5c hb6 hc6 hs; have HS5c := Lib.hid hs; clear hs)
    | (refine wpList_storeH rfl 69 (.tmp 6) (.tmp 8) rfl HS5c.out 0 rfl (u8v (leB v)) rfl rfl (by kernel_rfl) (fun _ _ => rfl) ?_; intro w6 hs; have HS6 := Lib.hid hs; clear hs))
  refine wp_region_factsS (l := [_, _]) (tl := []) (B := w6.heap.size) (w0 := w6) [SF.is (.slice (some ⟨b5, 0, none⟩) (32) (32)), SF.is (.slice (some ⟨b6, 0, none⟩) (8) (8))] (by kernel_rfl) (by kernel_rfl) rfl (Nat.le_refl _) (Below.refl _ _) ⟨?_, ?_, trivial⟩ ?_
  · exact opOb_slc rfl rfl (OpK.tmp rfl) (OpKo.no) (OpKo.no) (fun w => cut_arr Tryd.underlying23 1 (by kernel_rfl) none none (0) (32) (.inl ⟨rfl, rfl⟩) (.inl ⟨rfl, rfl⟩) (by omega) (by omega) (by omega) (by omega) (by omega) (by omega))
  · exact opOb_slc rfl rfl (OpK.tmp rfl) (OpKo.no) (OpKo.no) (fun w => cut_arr Tryd.underlying69 1 (by kernel_rfl) none none (0) (8) (.inl ⟨rfl, rfl⟩) (.inl ⟨rfl, rfl⟩) (by omega) (by omega) (by omega) (by omega) (by omega) (by omega))
  · intro w' hb
    simp only [fin, SF.is, forall_eq]
    simp only [Act.put, List.setIfInBounds_toArray, List.set_cons_succ, List.set_cons_zero]
    have hs := HS6.out.below hb
    refine wp_copyL rfl Tryd.underlying35 (by kernel_rfl) hs 1 rfl 0 32 32 (Rd.of_row (hs.row 0 rfl) (Nat.le_refl _) (hs.lt 0 rfl)) (fun _ _ => rfl) 8 rfl (by omega) rfl rfl _ (lay8 v) ?_
    clear hs hb
    intro wa hs
    have hA : HS w wa [⟨b6, 69, 8, u8v (leB v)⟩, ⟨b5, 23, 32, u8v (padN 8 (leB v))⟩, ⟨b4, 23, 32, u8v fun _ => 0⟩, ⟨b2, 23, 32, u8v x⟩] := hs
    have HA := Lib.hid hA
    clear hs hA HS2 HS4 HS5 HS5b HS5c HS6
    simp only [seqWp]
    go_wp2_with (first
      | (refine wpList_load_rd rfl 23 _ rfl 32 _ Tryd.underlying23 rfl (by kernel_rfl) ⟨b2, 0, none⟩ rfl (u8v x) (fun i hi => by rw [add_lit0]; exact HA.out.cell 3 i rfl hi) ?_)
      | (refine wpList_load_rd rfl 23 _ rfl 32 _ Tryd.underlying23 rfl (by kernel_rfl) ⟨b5, 0, none⟩ rfl (u8v (padN 8 (leB v))) (fun i hi => by rw [add_lit0]; exact HA.out.cell 1 i rfl hi) ?_)
      | (go_at_call 18; refine (two_any x (padN 8 (leB v)) HXl.out (padN_lt (leB_lt v)) _ (HP.out.below (HA.out.out (by simp; omega)))).mono ?_; rintro e w12 ⟨rfl, hb⟩; have HS12 := Lib.hid (HA.out.below hb); clear hb)
      | (refine wpList_storeH rfl 23 (.tmp 4) (.tmp 14) rfl HS12.out 2 rfl (u8v (shaB (catN 32 x (padN 8 (leB v))) 64)) rfl rfl (by kernel_rfl) (fun _ _ => rfl) ?_; intro wy hs; have HY := Lib.hid hs; clear hs))
    exact ret_rowIs rfl (HY.out.row 2 rfl) _ rfl Tryd.underlying23 rfl (by kernel_rfl) rfl ⟨rfl, HY.out.out (by simp; omega)⟩
open MerkleMix in
set_option maxHeartbeats 4000000 in
theorem mix_ref (x : Nat → Nat) (hx : ∀ i, x i < 256) (v : Nat) (w : World) (hp : RefPkg w) :
    Calls Tryd.prog 26 #[rootV x, .int .u64 (v : Int)] w fun e w' => e = .returned (rootV (shaB (catN 32 x (padN 8 (leB v))) 64)) ∧ Below w.heap.size w w' := by
  have HP := Lib.hid hp
  have HXl := Lib.hid hx
  have HS0 := Lib.hid (HS.nil w)
  clear hp hx
  go_enter Tryd.func26, Tryd.ntmps26
  go_wp2_with (first
    | (refine wpList_boxL rfl 23 _ 2 rfl rfl HS0.out 32 (u8v x) rfl ?_; intro b2 w2 hb2 hc2 hs; have HS2 := Lib.hid hs; clear hs)
    | (refine wpList_allocL rfl 23 4 rfl rfl HS2.out (Array.replicate 32 (.int .u8 0)) (by kernel_rfl) 32 (u8v fun _ => 0) (by rfl) (zero_at 32 (.int .u8 0)) ?_; intro b4 w4 hb4 hc4 hs; have HS4 := Lib.hid hs; clear hs)
    | (refine wpList_allocL rfl 23 5 rfl rfl HS4.out (Array.replicate 32 (.int .u8 0)) (by kernel_rfl) 32 (u8v fun i => if i < 0 then leB v i else 0) (by rfl) (zero_at 32 (.int .u8 0)) ?_; intro b5 w5 hb5 hc5 hs; have HS5 := Lib.hid hs; clear hs)
    | (go_at_call 48; refine (bytes_ref v _).mono ?_; rintro e w5b ⟨rfl, hb⟩; have HS5b := Lib.hid (HS5.out.below hb); clear hb)
    | (refine wpList_allocL rfl 69 6 rfl rfl HS5b.out (Array.replicate 8 (.int .u8 0)) (by kernel_rfl) 8 (u8v fun _ => 0) (by rfl) (zero_at 8 (.int .u8 0)) ?_; intro b6 w5c hb6 hc6 hs; have HS5c := Lib.hid hs; clear hs)
    | (refine wpList_storeH rfl 69 (.tmp 6) (.tmp 9) rfl HS5c.out 0 rfl (u8v (leB v)) rfl rfl (by kernel_rfl) (fun _ _ => rfl) ?_; intro w6 hs; have HS6 := Lib.hid hs; clear hs))
  go_loopw [7] (fun i wr => ∃ j : Nat, i = .int .i64 (j : Int) ∧ j ≤ 8 ∧ HS w wr [⟨b6, 69, 8, u8v (leB v)⟩, ⟨b5, 23, 32, u8v fun i => if i < j then leB v i else 0⟩, ⟨b4, 23, 32, u8v fun _ => 0⟩, ⟨b2, 23, 32, u8v x⟩]) (fun i _ => 8 - (intOf i).toNat)
  case atStart => exact ⟨0, rfl, by omega, HS6.out⟩
  case round =>
    clear HS2 HS4 HS5 HS5b HS5c HS6
    obtain ⟨j, rfl, hj, hs⟩ := hrel
    by_cases hj8 : j < 8
    · have cl := hs.cell 0 j rfl hj8
      have co := hs.cell 1 j rfl (show j < 32 by omega)
      have fo := hs.frozen 1 j rfl
      have HSq := Lib.hid hs
      clear hs
      go_wp2_with fail
      go_roundw
      case rel => exact ⟨j + 1, by go_num, by omega, (HSq.out.set 1 j rfl _).congr 1 rfl (fun i _ => le_step _ rfl)⟩
      case measure => simp [intOf]; omega
    · obtain rfl : j = 8 := by omega
      have HA := Lib.hid (hs.congr 1 rfl (lay_end v))
      clear hs
      go_wp2_with (first
        | (refine wpList_load_rd rfl 23 _ rfl 32 _ Tryd.underlying23 rfl (by kernel_rfl) ⟨b2, 0, none⟩ rfl (u8v x) (fun i hi => by rw [add_lit0]; exact HA.out.cell 3 i rfl hi) ?_)
        | (refine wpList_load_rd rfl 23 _ rfl 32 _ Tryd.underlying23 rfl (by kernel_rfl) ⟨b5, 0, none⟩ rfl (u8v (padN 8 (leB v))) (fun i hi => by rw [add_lit0]; exact HA.out.cell 1 i rfl hi) ?_)
        | (go_at_call 46; refine (refTwo_any x (padN 8 (leB v)) HXl.out (padN_lt (leB_lt v)) _ (HP.out.below (HA.out.out (by simp; omega)))).mono ?_; rintro e w12 ⟨rfl, hb⟩; have HS12 := Lib.hid (HA.out.below hb); clear hb)
        | (refine wpList_storeH rfl 23 (.tmp 4) (.tmp 21) rfl HS12.out 2 rfl (u8v (shaB (catN 32 x (padN 8 (leB v))) 64)) rfl rfl (by kernel_rfl) (fun _ _ => rfl) ?_; intro wy hs; have HY := Lib.hid hs; clear hs))
      exact ret_rowIs rfl (HY.out.row 2 rfl) _ rfl Tryd.underlying23 rfl (by kernel_rfl) rfl ⟨rfl, HY.out.out (by simp; omega)⟩
end Go.Proofs.YtjmbgdldnnmipaaDoor
