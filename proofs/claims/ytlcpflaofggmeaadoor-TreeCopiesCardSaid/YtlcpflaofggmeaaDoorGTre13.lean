/- A part of what the proofs stand on: TreeFn, TreeTz, Row, Deep, WordFn, OwnNew, ShufLawOps, PickDraw, StCopy, TreeSet, PickRichOps, TreeMark. -/
import Derived.Test.YtlcpflaofggmeaaDoorGTre12
import Derived.Test.YtlcpflaofggmeaaDoorGTre11
import Derived.Test.YtlcpflaofggmeaaDoorGTre9
import Derived.Test.YtlcpflaofggmeaaDoorGTre7
import Derived.Lib.TrailingZeros
import Derived.Test.YtlcpflaofggmeaaDoorGTre2
import Derived.ProofKit
import Derived.OpenShut
import Derived.ShutString
import Derived.SizedLaws
import Derived.JoinedCond
import Derived.Deep.Grids
import Derived.Test.YtlcpflaofggmeaaDoorGTre5
import Derived.Deep.Slices
import Derived.Test.YtlcpflaofggmeaaDoorGTre3
import Derived.Lib.Hide
import Derived.Deep.DeepCutAuto
import Derived.Deep.Light
import Derived.Deep.QuietTactic
import Derived.BigQuiet
import Derived.Test.YtlcpflaofggmeaaDoorGTre8
import Derived.Test.YtlcpflaofggmeaaDoorGTre6
import Derived.Test.YtlcpflaofggmeaaDoorGTre1
import Derived.Lib.ItoaNum
import Derived.ScopeJumps
import Derived.Shelf.Spec.BitsCarry
import Derived.Test.YtlcpflaofggmeaaDoorGTre10
import Derived.WitnessAt
import Derived.Handed
import Derived.Deep.DeepHandedRow
/- Trees that remember: Len, Hashes, Get. -/
namespace Go.Proofs.YtlcpflaofggmeaaDoor
set_option maxRecDepth 40000
open Go.RowKit
/-- A tree's pointer. -/
abbrev tpV (T : Nat) : Value := .pointer (some ⟨T, 0, none⟩)
namespace TreeFn
theorem idx0 (w : World) (b n c : Nat) (hn : 0 < n) : (Instr.indexAt 55 (.slice (some ⟨b, 0, none⟩) n c) (.int .i64 0)).run Tryd.prog w = .ok (.pointer (some ⟨b, 0, none⟩)) w := by
  have h := run_idxZ (z := 1) (k := 0) (P := Tryd.prog) (c := c) w Tryd.underlying55 (by kernel_rfl) ⟨b, 0, none⟩ hn
  rw [add_lit0] at h
  exact h
end TreeFn
section
variable {w : World} {base T : Nat} {v : TV}
theorem TM.c0 (h : TM w base T v) : w.cell? ⟨T, 0, none⟩ = some (.int .i64 (v.lim : Int)) := h.cell 0 (by omega)
theorem TM.c1 (h : TM w base T v) : w.cell? ⟨T, 1, none⟩ = some (.slice v.zA (v.D + 1) v.zc) := h.cell 1 (by omega)
theorem TM.c2 (h : TM w base T v) : w.cell? ⟨T, 2, none⟩ = some (.slice (some ⟨v.lb, 0, none⟩) (v.D + 1) v.lc) := h.cell 2 (by omega)
theorem TM.c3 (h : TM w base T v) : w.cell? ⟨T, 3, none⟩ = some (.slice v.dA v.dn v.dc) := h.cell 3 (by omega)
theorem TM.c4 (h : TM w base T v) : w.cell? ⟨T, 4, none⟩ = some (.int .i64 (v.H : Int)) := h.cell 4 (by omega)
end
open TreeFn in
set_option maxHeartbeats 4000000 in
theorem tlen_look (v : TV) (base T : Nat) (w : World) (h : TM w base T v) :
    Calls Tryd.prog 14 #[tpV T] w fun r w' => r = .returned (.int .i64 ((v.lm 0 : Nat) : Int)) ∧ w' = w := by
  have h2 := h.c2
  have h0 := h.level (k := 0) (Nat.zero_le _)
  obtain ⟨D, hD⟩ : ∃ D, v.D + 1 = D + 1 := ⟨_, rfl⟩
  rw [hD] at h2
  clear h hD
  go_enter Tryd.func14, Tryd.ntmps14
  go_wp2_with (refine wpList_as rfl 9 rfl (.pointer (some ⟨v.lb, 0, none⟩)) ?_ ?_; (· exact ex_idx rfl rfl rfl (fun w => idx0 w _ _ _ (by omega)) _))
  go_ret
  exact ⟨rfl, rfl⟩
set_option maxHeartbeats 4000000 in
theorem tlen_nil (w : World) : Calls Tryd.prog 14 #[.pointer none] w fun r w' => r = .returned (.int .i64 0) ∧ w' = w := by
  go_enter Tryd.func14, Tryd.ntmps14
  go_wp2_with fail
  go_ret
  exact ⟨rfl, rfl⟩
set_option maxHeartbeats 4000000 in
theorem thash_look (v : TV) (base T : Nat) (w : World) (h : TM w base T v) :
    Calls Tryd.prog 21 #[tpV T] w fun r w' => r = .returned (.int .i64 ((v.H : Nat) : Int)) ∧ w' = w := by
  have h4 := h.c4
  clear h
  go_enter Tryd.func21, Tryd.ntmps21
  go_wp2_with fail
  go_ret
  exact ⟨rfl, rfl⟩
set_option maxHeartbeats 4000000 in
theorem thash_nil (w : World) : Calls Tryd.prog 21 #[.pointer none] w fun r w' => r = .returned (.int .i64 0) ∧ w' = w := by
  go_enter Tryd.func21, Tryd.ntmps21
  go_wp2_with fail
  go_ret
  exact ⟨rfl, rfl⟩
end Go.Proofs.YtlcpflaofggmeaaDoor
/- The lowest bit of a word: math/bits.TrailingZeros64. -/
namespace Go.Proofs.YtlcpflaofggmeaaDoor
set_option maxRecDepth 40000
open Go.RowKit
/-- The table lies as the library's text lays it. -/
structure TzPkg (w : World) : Prop where
  tab : ∀ i, i < 64 → w.cell? ⟨1, i, none⟩ = some (.int .u8 ((Go.Lib.deBruijn64tab.getD i 0 : Nat) : Int))
  lt : 1 < w.heap.size
theorem TzPkg.below {w w' : World} {B : Nat} (h : TzPkg w) (hb : Below B w w') (hB : 1 < B) : TzPkg w' :=
  ⟨fun i hi => by rw [← h.tab i hi]; exact World.cell?_of_block (hb.block _ hB), Nat.lt_of_lt_of_le h.lt hb.size⟩
namespace TreeTz
theorem ex_negU {P : Program} {o : Oper} {a : Act} {ty : TypeId} {x : Operand} (n : Nat) (h0 : 0 < n) (h : n < 18446744073709551616) (ho : o.op = .unOp .neg ty x) (hx : a.eval x = .int .u64 (n : Int)) (w : World) : (execOp a.eval o).run P w = .ok (.value (.int .u64 ((18446744073709551616 - n : Nat) : Int))) w := by
  unfold execOp
  rw [ho]
  simp only [hx]
  simp [go_sem, IntKind.wrap, IntKind.bits, IntKind.signed]
  omega
theorem mulW2 (a r : Nat) (hr : a * 285870213051353865 % 18446744073709551616 = r) (w : World) : (binOp .mul 65 (.int .u64 (a : Int)) (.int .u64 285870213051353865)).run Tryd.prog w = .ok (.int .u64 (r : Int)) w := by
  subst hr
  simp [go_sem, IntKind.wrap, IntKind.bits, IntKind.signed]
theorem shr58 (m k : Nat) (h : m / 288230376151711744 = k) (w : World) : (binOp .shr 65 (.int .u64 (m : Int)) (.int .u64 58)).run Tryd.prog w = .ok (.int .u64 (k : Int)) w := by
  subst h
  simp [go_sem]
theorem ixT (w : World) (i : Nat) (hi : i < 64) : (Instr.indexAt 71 (.pointer (some ⟨1, 0, none⟩)) (.int .u64 (i : Int))).run Tryd.prog w = .ok (.pointer (some ⟨1, i, none⟩)) w := by
  simp [go_sem, Instr.indexAt]
  omega
theorem cvBI (b : Nat) (hb : b < 256) (w : World) : (convert 5 3 (.int .u8 (b : Int))).run Tryd.prog w = .ok (.int .i64 (b : Int)) w := by
  simp [go_sem, IntKind.wrap, IntKind.bits, IntKind.signed]; omega
end TreeTz
open TreeTz in
set_option maxHeartbeats 4000000 in
theorem tz64_look (x : Nat) (h0 : 0 < x) (h : x < 18446744073709551616) (w : World) (hp : TzPkg w) :
    Calls Tryd.prog 38 #[.int .u64 (x : Int)] w fun r w' => r = .returned (.int .i64 ((Go.Lib.ctz 64 x : Nat) : Int)) ∧ w' = w := by
  obtain ⟨hlow, hlt⟩ := Go.Lib.lowest_bit 64 x (by omega) h
  rw [show (2 : Nat) ^ 64 = 18446744073709551616 by decide] at hlow
  obtain ⟨k, hk⟩ : ∃ k, Go.Lib.ctz 64 x = k := ⟨_, rfl⟩
  rw [hk] at hlow hlt ⊢
  obtain ⟨hd1, hd2⟩ := Go.Lib.deBruijn64_at k hlt
  obtain ⟨p, hpw⟩ : ∃ p, 2 ^ k = p := ⟨_, rfl⟩
  rw [hpw] at hlow hd1 hd2
  obtain ⟨m, hm⟩ : ∃ m, p * 285870213051353865 % 18446744073709551616 = m := ⟨_, rfl⟩
  rw [hm] at hd1 hd2
  obtain ⟨q, hq⟩ : ∃ q, m / 288230376151711744 = q := ⟨_, rfl⟩
  rw [hq] at hd1 hd2
  have HT := Lib.hid (show w.cell? ⟨1, q, none⟩ = some (.int .u8 ((k : Nat) : Int)) by rw [hp.tab q hd1, hd2])
  have HLow := Lib.hid (show x &&& (18446744073709551616 - x) = p from hlow)
  have HM := Lib.hid hm
  have HQ := Lib.hid hq
  have hx0 : ((x : Int) == 0) = false := by simp; omega
  clear hlow hd2 hm hq hk hpw hp
  go_enter Tryd.func38, Tryd.ntmps38
  go_wp2_with (first
    | (refine wpList_as rfl 7 rfl (.int .u64 ((18446744073709551616 - x : Nat) : Int)) ?_ ?_; (· exact ex_negU x h0 h rfl rfl _))
    | (refine wpList_as rfl 8 rfl (.int .u64 (p : Int)) ?_ ?_; (· exact ex_bin rfl rfl rfl rfl (fun w => ShufFn.andU x (18446744073709551616 - x) p h (by omega) HLow.out w) _))
    | (refine wpList_as rfl 9 rfl (.int .u64 (m : Int)) ?_ ?_; (· exact ex_bin rfl rfl rfl rfl (fun w => mulW2 p m HM.out w) _))
    | (refine wpList_as rfl 10 rfl (.int .u64 (q : Int)) ?_ ?_; (· exact ex_bin rfl rfl rfl rfl (fun w => shr58 m q HQ.out w) _))
    | (refine wpList_as rfl 11 rfl (.pointer (some ⟨1, q, none⟩)) ?_ ?_; (· exact ex_idx rfl rfl rfl (fun w => ixT w q hd1) _))
    | (refine wpList_as rfl 12 rfl (.int .u8 ((k : Nat) : Int)) ?_ ?_; (· exact ex_ld1 .u8 rfl rfl Tryd.underlying5 HT.out))
    | (refine wpList_as rfl 13 rfl (.int .i64 ((k : Nat) : Int)) ?_ ?_; (· exact ex_cnv rfl rfl (fun w => cvBI k (by omega) w) _)))
  go_ret
  exact ⟨rfl, rfl⟩
end Go.Proofs.YtlcpflaofggmeaaDoor
/- Arguments that came in, as functions of the index. -/
namespace Go.Proofs.YtlcpflaofggmeaaDoor
set_option maxRecDepth 40000
open Go.RowKit Go.ChangeShapes Go.WideShapes Go.ChangeAt

theorem cell_lt {w : World} {a : Addr} {v : Value} (h : w.cell? a = some v) : a.block < w.heap.size := by
  rcases Nat.lt_or_ge a.block w.heap.size with hl | hl
  · exact hl
  · exfalso
    unfold World.cell? at h
    rw [Array.getElem?_eq_none hl] at h
    simp at h

theorem rd_of {w : World} {x : Addr} {n : Nat} {f : Nat → Value} (h : ∀ i, i < n → w.cell? (x.add i) = some (f i)) : Rd w w.heap.size (some x) n f := fun hn =>
  ⟨x, rfl, by have := cell_lt (h 0 hn); rwa [block_of_add] at this, h⟩

theorem wf_u8 {n : Int} (h : (Lit.int .u8 n).wf = true) : 0 ≤ n ∧ n < 256 := by
  simp [Lit.wf, IntKind.min, IntKind.max, IntKind.signed, IntKind.bits] at h; omega
theorem wf_i64 {n : Int} (h : (Lit.int .i64 n).wf = true) : -9223372036854775808 ≤ n ∧ n ≤ 9223372036854775807 := by
  simp [Lit.wf, IntKind.min, IntKind.max, IntKind.signed, IntKind.bits] at h; omega

end Go.Proofs.YtlcpflaofggmeaaDoor
/- A value of whatever type, read cell by cell: which leaf lies where, and what a slice in it leads to. -/
namespace Go.Proofs.YtlcpflaofggmeaaDoor
set_option maxRecDepth 40000
open Go.RowKit Go.ChangeShapes Go.WideShapes Go.ChangeAt Go.Deep

/-- The type of cell i of a value of type t. -/
def leafAt (P : Program) : Nat → TypeId → Nat → Option TypeId
  | 0, _, _ => none
  | f + 1, t, i => match P.underlying t with
    | some (.struct fs) => (fs.toList.find? fun x => decide (x.offset ≤ i) && decide (i < x.offset + P.cellsOf x.type)).bind fun x => leafAt P f x.type (i - x.offset)
    | some (.array n e) => if i / P.cellsOf e < n then leafAt P f e (i % P.cellsOf e) else none
    | some _ => if i = 0 then some t else none
    | none => none

def nat (v : Value) : Nat := match v with | .int _ n => n.toNat | _ => 0
section
variable {H : Type} {enc : TypeId × Value → H} {P : Program} {w : World} {base : Nat} {spare : Nat → Bool} {held : Bool}
theorem leaf_trod : ∀ (f : Nat) (t : TypeId) (i : Nat) (l : TypeId) (fuel : Nat) (cs : List Value) (y : DataW H × List MemPlace), leafAt P f t i = some l → DataW.trod enc P w base spare held fuel t cs = some y →
    ∃ v m y', cs[i]? = some v ∧ DataW.trod enc P w base spare held m l [v] = some y'
  | 0, _, _, _, _, _, _, h, _ => by cases h
  | f + 1, t, i, l, fuel, cs, y, h, hd => by
    unfold leafAt at h
    have sub : ∀ (o k : Nat) (v : Value), ((cs.drop o).take k)[i - o]? = some v → o ≤ i → cs[i]? = some v := fun o k v hv ho => by
      rw [List.getElem?_take] at hv
      split at hv
      · rw [List.getElem?_drop] at hv; rwa [show o + (i - o) = i by omega] at hv
      · cases hv
    split at h
    · rename_i fs hu
      obtain ⟨xs, n, _, _, _, hxl, hf⟩ := DataW.trod_struct hu hd
      cases hfi : fs.toList.find? (fun x => decide (x.offset ≤ i) && decide (i < x.offset + P.cellsOf x.type)) with
      | none => rw [hfi] at h; cases h
      | some x =>
        rw [hfi] at h
        have hp := List.find?_some hfi
        simp only [Bool.and_eq_true, decide_eq_true_eq] at hp
        obtain ⟨k, hk, hkx⟩ := List.mem_iff_getElem.1 (List.mem_of_find?_eq_some hfi)
        have hk' : k < fs.size := by simpa using hk
        have h1 := hf k x (by rw [← hkx]; simp [hk'])
        rw [List.getElem?_eq_getElem (by omega)] at h1
        obtain ⟨v, m, y', hv, hy⟩ := leaf_trod f x.type (i - x.offset) l n _ _ h h1
        exact ⟨v, m, y', sub _ _ _ hv hp.1, hy⟩
    · rename_i n e hu
      split at h
      · rename_i hlt
        obtain ⟨xs, m, _, _, _, hxl, hf⟩ := DataW.trod_array hu hd
        have h1 := hf _ hlt
        rw [List.getElem?_eq_getElem (by omega)] at h1
        obtain ⟨v, m, y', hv, hy⟩ := leaf_trod f e _ l m _ _ h h1
        have hdm : i / P.cellsOf e * P.cellsOf e + i % P.cellsOf e = i := Nat.div_add_mod' i (P.cellsOf e)
        exact ⟨v, m, y', sub _ _ _ (by rwa [show i - i / P.cellsOf e * P.cellsOf e = i % P.cellsOf e by omega]) (by omega), hy⟩
      · cases h
    · rename_i d hd1 hd2 hu
      split at h
      · rename_i h0
        injection h with h
        subst h h0
        have : ∃ v, cs = [v] := by
          cases fuel with
          | zero => simp [DataW.trod] at hd
          | succ n =>
            unfold DataW.trod at hd
            rw [hu] at hd
            split at hd <;> first | exact ⟨_, rfl⟩ | (cases hd; done) | simp_all
        obtain ⟨v, rfl⟩ := this
        exact ⟨v, _, _, rfl, hd⟩
      · cases h
    · cases h
end

/-- The cells F read as a value of type T. -/
def TyF {H : Type} (enc : TypeId × Value → H) (P : Program) (w : World) (F : Nat → Value) (T : TypeId) : Prop := ∀ i l, leafAt P 8 T i = some l → ∃ m y, DataW.trod enc P w 0 (fun _ => true) true m l [F i] = some y

section
variable {H : Type} {enc : TypeId × Value → H} {P : Program} {w : World} {F : Nat → Value} {T l : TypeId}
theorem TyF.of_trod {fuel : Nat} {cs : List Value} {y : DataW H × List MemPlace} (h : DataW.trod enc P w 0 (fun _ => true) true fuel T cs = some y) (hF : ∀ i v, cs[i]? = some v → F i = v) : TyF enc P w F T := fun i l hl => by
  obtain ⟨v, m, y', hv, hy⟩ := leaf_trod 8 T i l fuel cs y hl h
  rw [hF i v hv]
  exact ⟨m, y', hy⟩
theorem TyF.int (h : TyF enc P w F T) (i : Nat) (hl : leafAt P 8 T i = some l) {k : IntKind} (hu : P.underlying l = some (.int k)) : ∃ n, F i = .int k n ∧ (Lit.int k n).wf = true := by
  obtain ⟨m, y, hy⟩ := h i l hl
  obtain ⟨n, e, _, hw⟩ := DataW.trod_int hu hy
  injection e with e _
  exact ⟨n, e, hw⟩
theorem TyF.u8 (h : TyF enc P w F T) (i : Nat) (hl : leafAt P 8 T i = some l) (hu : P.underlying l = some (.int .u8)) : F i = .int .u8 ((nat (F i) : Nat) : Int) ∧ nat (F i) < 256 := by
  obtain ⟨n, e, hw⟩ := h.int i hl hu
  have := wf_u8 hw
  rw [e]
  simp only [nat, Int.toNat_of_nonneg this.1, true_and]
  omega
/-- A slice: where it lies, and its elements' cells. -/
theorem TyF.slice (h : TyF enc P w F T) (i : Nat) (hl : leafAt P 8 T i = some l) {e : TypeId} (hu : P.underlying l = some (.slice e)) {k : Nat} (hk : P.cellsOf e = k) (hk0 : 0 < k) :
    ∃ A n c G, F i = .slice A n c ∧ n ≤ c ∧ c ≤ maxLen ∧ Rd w w.heap.size A (n * k) G ∧ (∀ j, j < n → TyF enc P w (fun q => G (j * k + q)) e) ∧ (A = none → c = 0) := by
  obtain ⟨m, y, hy⟩ := h i l hl
  rcases open_slice hu hy with ⟨hcs, _⟩ | ⟨a, len, cap, m', fuel, D, Pl, hcs, _, hlc, hcm, hm', _, hel⟩
  · injection hcs with hcs
    exact ⟨none, 0, 0, fun _ => undef, hcs, Nat.le_refl _, Nat.zero_le _, by rw [Nat.zero_mul]; exact Rd.none_, fun j hj => absurd hj (Nat.not_lt_zero _), fun _ => rfl⟩
  · injection hcs with hcs
    simp only [if_true] at hm'
    subst hm'
    obtain ⟨cf, hcf⟩ := choose_lt hel
    rw [hk] at hcf
    have hcell : ∀ j, j < m' → (cf j).length = k ∧ ∀ q, q < k → w.cell? ((a.add (j * k)).add q) = (cf j)[q]? := fun j hj => by
      have h1 := World.cells?_some (hcf j hj).1
      exact ⟨h1.2.1, h1.2.2⟩
    refine ⟨some a, len, m', fun x => (cf (x / k)).getD (x % k) undef, hcs, hlc, hcm, fun hn => ?_, fun j hj => ?_, fun h => by cases h⟩
    · have h0 : 0 < len := Nat.pos_of_mul_pos_right hn
      have hd : ∀ x, x < len * k → x / k < m' ∧ x % k < k := fun x hx => ⟨Nat.lt_of_lt_of_le (Nat.div_lt_of_lt_mul (by rwa [Nat.mul_comm k]) ) hlc, Nat.mod_lt _ hk0⟩
      have hc : ∀ x, x < len * k → w.cell? (a.add x) = some ((cf (x / k)).getD (x % k) undef) := fun x hx => by
        obtain ⟨h1, h2⟩ := hcell _ (hd x hx).1
        have h3 := h2 _ (hd x hx).2
        rw [add_of_add, Nat.div_add_mod' x k] at h3
        rw [h3]
        have : x % k < (cf (x / k)).length := by rw [h1]; exact (hd x hx).2
        simp [List.getD, this]
      exact ⟨a, rfl, by have := cell_lt (hc 0 hn); rwa [block_of_add] at this, hc⟩
    · have hjm : j < m' := by omega
      refine TyF.of_trod (hcf j hjm).2 fun q v hv => ?_
      have hq : q < k := by
        have := (hcell j hjm).1
        rcases Nat.lt_or_ge q k with h1 | h1
        · exact h1
        · rw [List.getElem?_eq_none (by omega)] at hv; cases hv
      have h1 : (j * k + q) / k = j := by rw [Nat.mul_comm, Nat.mul_add_div hk0, Nat.div_eq_of_lt hq, Nat.add_zero]
      have h2 : (j * k + q) % k = q := by rw [Nat.mul_comm, Nat.mul_add_mod, Nat.mod_eq_of_lt hq]
      show (cf ((j * k + q) / k)).getD ((j * k + q) % k) undef = v
      rw [h1, h2]
      simp [List.getD, hv]
end
end Go.Proofs.YtlcpflaofggmeaaDoor
/- Functions of package word, and of its reference. -/
namespace Go.Proofs.YtlcpflaofggmeaaDoor
set_option maxRecDepth 40000
open Go.RowKit
section
variable {P : Program}
/-- The lesser of two whole numbers. -/
theorem wpList_min {ops : Array Oper} {rest : List Oper} {o : Oper} {a : Act} {w : World} {Q : Exit → Act → World → Prop} (hgd : o.guard = none) {x y : Operand} {ts : Array TypeId} (ho : o.op = .call { callee := .builtin .min, args := #[x, y], argTypes := ts })
    (k : IntKind) (i j m : Int) (hx : a.eval x = .int k i) (hy : a.eval y = .int k j) (hm : m = if j < i then j else i) (hK : wpList P ops Q rest (a.put o.dst (.int k m)) w) : wpList P ops Q (o :: rest) a w :=
  wpList_plain hgd fun _ hK' => by
    have hrun : (execOp a.eval o).run P w = .ok (.value (.int k m)) w := by
      unfold execOp
      subst hm
      simp only [ho, resolve, invoke, builtin, Sem.run_bind, Sem.run_pure, Result.andThen_ok, List.map_toArray, List.map_cons, List.map_nil, hx, hy]
      simp [Builtin.min_, Builtin.min2, go_sem]
    unfold Oper.wp
    rw [hrun]
    exact hK' _ _ hK
end
end Go.Proofs.YtlcpflaofggmeaaDoor
/- A new variable in a region in which rows are taken over. -/
namespace Go.Proofs.YtlcpflaofggmeaaDoor
set_option maxRecDepth 40000
open Go.RowKit
def footP : Value → Option Nat
  | .pointer (some a) => some a.block
  | _ => none
def OF.new (base : Nat) (t : TypeId) (n : Nat) (f : Nat → Value) : OF :=
  ⟨fun v w => ∃ b, v = .pointer (some ⟨b, 0, none⟩) ∧ base ≤ b ∧ w.rowIs b t n f, footP,
    fun _ _ _ row ⟨b, e1, h1, h⟩ hg hne => ⟨b, e1, h1, h.of_block (hg.block b h.lt (fun er => hne b (by rw [e1]; rfl) er.symm))⟩,
    fun _ _ b ⟨b', e1, _, h⟩ hf => by subst e1; injection hf with hf; subst hf; exact h.lt⟩
section
variable {P : Program} {ops : Array Oper} {B : Nat} {w0 : World} {o : Oper} {lk : Tmp → OF}
theorem opObO_new (base : Nat) {t : TypeId} (hg : o.guard = none) (hop : o.op = .alloc t) (cs : Array Value) (hz : (P.info? t).bind (·.zero) = some (.agg cs)) (n : Nat) (f : Nat → Value) (hn : cs.size = n) (hc : ∀ i, i < n → cs[i]? = some (f i)) (hb : base ≤ w0.heap.size) : opObO P ops B w0 o (OF.new base t n f) lk none :=
  opObO_of hg fun a w hbel hf => by
    have hr : (Instr.alloc t true (.tuple #[])).run P w = .ok (.pointer (some ⟨w.heap.size, 0, none⟩)) (w.alloc (.cells cs t)) := by
      cases hq : P.info? t with
      | none => rw [hq] at hz; simp at hz
      | some i =>
        rw [hq] at hz
        simp at hz
        simp [Instr.alloc, zeroValue, typeInfo, hq, hz, newVar, Value.cells, go_sem]
    unfold Oper.wp execOp
    simp only [hop, Sem.run_bind, hr, Result.andThen_ok, Sem.run_pure]
    have h0 := (HS.nil w).alloc cs t n f hn hc
    have hbw := h0.out (by simp)
    exact ⟨_, none, rfl, ⟨w.heap.size, rfl, Nat.le_trans hb hbel.size, h0.row 0 rfl⟩, ⟨hbw.os, hbw.tape, hbw.output, hbw.size, fun k hk _ => hbw.block k hk⟩, (fun b hb => by cases hb), (fun b hb => by injection hb with hb; subst hb; exact .inl (Nat.le_refl _))⟩
end
end Go.Proofs.YtlcpflaofggmeaaDoor
/- Numbers of 64 bits that wrap around, and rows of them, as the laws of this chapter use them. (Printed by a program of mine.) -/
namespace Go.Proofs.YtlcpflaofggmeaaDoor
set_option maxRecDepth 40000
open Go.RowKit
namespace ShufLawOps
theorem own_cap0 {w : World} {base z n c : Nat} {e : TypeId} {A : Option Addr} {f : Nat → Value} (h : OwnZ w base e z A n c f) : A = none → c = 0 := by
  rintro rfl
  rcases h.2 with ⟨hv, _⟩ | ⟨g, cap, cur, hv, _⟩
  · injection hv with _ h1 h2
  · injection hv with h1; cases h1
section
variable {P : Program}
/-- One cell of row k is laid; the world is a letter. -/
theorem wpList_st1 {ops : Array Oper} {rest : List Oper} {o : Oper} {a : Act} {w w0 : World} {Q : Exit → Act → World → Prop} {rows : List RowSpec} (hgd : o.guard = none) (ty : TypeId) (x y : Operand) (ho : o.op = .store ty x y) (h : HS w0 w rows) (k : Nat) {b : Nat} {t : TypeId} {n : Nat} {f : Nat → Value} (hk : rows[k]? = some ⟨b, t, n, f⟩) (off : Nat) (v : Value)
    (hst : ∀ (w : World) (ad : Addr) (u : Value), w.cell? ad = some u → w.frozen? ad = false → (Instr.storeAt ty (.pointer (some ad)) v).run P w = .ok () (w.setCell ad v)) (hx : a.eval x = .pointer (some ⟨b, off, none⟩)) (hy : a.eval y = v) (hfit : off < n)
    (g : Nat → Value) (hg : ∀ j, j < n → (if j = off then v else f j) = g j)
    (hK : ∀ w', HS w0 w' (rows.set k ⟨b, t, n, g⟩) → w.grownBy w' (some b) → wpList P ops Q rest (a.put o.dst undef) w') : wpList P ops Q (o :: rest) a w :=
  wpList_plain hgd fun _ hK' => by
    have hrun := hst w ⟨b, off, none⟩ _ (h.cell k off hk hfit) (h.frozen k off hk)
    unfold Oper.wp execOp
    simp only [ho, hx, hy, Sem.run_bind, hrun, Result.andThen_ok, Sem.run_pure]
    refine hK' _ _ (hK _ ?_ (grown_setCell (World.grownBy.refl _ _) (.inl rfl) _))
    have h1 := (h.set k off hk v).congr k (g := g) (b := b) (t := t) (n := n) (f := fun j => if j = off then v else f j) (by
      obtain ⟨hk', _⟩ := List.getElem?_eq_some_iff.1 hk
      rw [List.getElem?_set]; simp [hk']) hg
    rwa [List.set_set] at h1
end
theorem stU (m : Int) (w : World) (ad : Addr) (u : Value) (h : w.cell? ad = some u) (hf : w.frozen? ad = false) : (Instr.storeAt 65 (.pointer (some ad)) (.int .u64 m)).run Tryd.prog w = .ok () (w.setCell ad (.int .u64 m)) := by
  simp [go_sem, h, hf]
end ShufLawOps
end Go.Proofs.YtlcpflaofggmeaaDoor
/- The walk of draw. (Printed by a program of mine.) -/
namespace Go.Proofs.YtlcpflaofggmeaaDoor
set_option maxRecDepth 40000
open Go.RowKit
namespace PickDraw
theorem run_ldSl {P : Program} (w : World) (ad : Addr) (ty e : TypeId) (v : Value) (h : w.cell? ad = some v) (hu : P.underlying ty = some (.slice e)) : (Instr.loadAt ty (.pointer (some ad))).run P w = .ok v w := by
  simp only [Instr.loadAt, Instr.sureAddr, Sem.run_bind, Sem.run_pure, Result.andThen]
  have hagg : (isAgg ty).run P w = .ok false w := by
    unfold isAgg
    rw [Sem.run_bind, run_underlying hu w]
    rfl
  simp [loadVar, Sem.run_bind, hagg, h]
section
variable {P : Program}
end
end PickDraw
end Go.Proofs.YtlcpflaofggmeaaDoor
/- A state's copy: all its lists are its own. (Printed by a program of mine.) -/
namespace Go.Proofs.YtlcpflaofggmeaaDoor
set_option maxRecDepth 40000
open Go.RowKit
theorem ex_ldSl {P : Program} {w : World} {o : Oper} {a : Act} {ty e : TypeId} {x : Operand} {ad : Addr} {u v : Value} (ho : o.op = .load ty x) (hx : a.eval x = .pointer (some ad)) (hu : P.underlying ty = some (.slice e)) (h : w.cell? ad = some u) (hv : u = v) : (execOp a.eval o).run P w = .ok (.value v) w := by
  subst hv
  unfold execOp
  rw [ho]
  simp only [hx]
  simp [PickDraw.run_ldSl w ad ty e u h hu]
namespace StCopy
theorem stSlR (A : Option Addr) (n c : Nat) (w : World) (ad : Addr) (u : Value) (h : w.cell? ad = some u) (hf : w.frozen? ad = false) : (Instr.storeAt 22 (.pointer (some ad)) (.slice A n c)).run Tryd.prog w = .ok () (w.setCell ad (.slice A n c)) := by
  simp [go_sem, h, hf]
end StCopy
end Go.Proofs.YtlcpflaofggmeaaDoor
/- Trees in memory: what a list of theirs reads as is changed in place; what a call may change of a tree. -/
namespace Go.Proofs.YtlcpflaofggmeaaDoor
set_option maxRecDepth 40000
open Go.RowKit
section
variable {w w' : World} {base T : Nat} {v : TV}
theorem TM.other2 (h : TM w base T v) {r0 : Nat} {A : Option Addr} (hA : ∀ b, OnA A b → v.role T r0 b) (hg : w.grownBy w' (A.map (·.block))) : (∀ r b, v.role T r b → r ≠ r0 → w'.heap[b]? = w.heap[b]?) ∧ ∀ b, OnA v.zA b → w'.heap[b]? = w.heap[b]? := by
  refine ⟨fun r b hr hn => hg.block b (h.lt ⟨r, hr⟩) (fun e => ?_), fun b hb => hg.block b (h.zlt hb) (fun e => ?_)⟩
  · cases hd : A with
    | none => rw [hd] at e; cases e
    | some ad => rw [hd] at e; injection e with e; exact hn (h.apart r r0 b hr (hA b ⟨ad, hd, e.symm⟩))
  · cases hd : A with
    | none => rw [hd] at e; cases e
    | some ad => rw [hd] at e; injection e with e; exact h.zapart b hb ⟨r0, hA b ⟨ad, hd, e.symm⟩⟩
/-- The bitmap's words anew, in place. -/
theorem TM.setW (h : TM w base T v) {dw' : Nat → Nat} (hg : w.grownBy w' (v.dA.map (·.block))) (ho : OwnZ w' base 65 1 v.dA v.dn v.dc (u64v dw')) : TM w' base T { v with dw := dw' } := by
  obtain ⟨hk, hz⟩ := h.other2 (r0 := 2) (A := v.dA) (fun b hb => hb) hg
  exact {
    baseT := h.baseT
    row := h.row.of_block (hk 0 T rfl (by omega))
    zr := by
      intro h0
      obtain ⟨ad, e, hb, hc⟩ := h.zr h0
      refine ⟨ad, e, Nat.lt_of_lt_of_le hb hg.size, fun i hi => ?_⟩
      rw [← hc i hi]
      exact World.cell?_of_block (by rw [block_of_add]; exact hz _ ⟨ad, e, rfl⟩)
    zb := h.zb
    baseL := h.baseL
    lrow := by
      obtain ⟨F, hF, h1⟩ := h.lrow
      exact ⟨F, hF.of_block (hk 1 v.lb rfl (by omega)), h1⟩
    lcap := h.lcap
    lv := fun k hk2 => (h.lv k hk2).blk fun ad e => hk (k + 3) _ ⟨hk2, ad, e, rfl⟩ (by omega)
    dr := ho
    apart := h.apart
    zapart := h.zapart }
/-- A level's nodes anew, in place. -/
theorem TM.setG (h : TM w base T v) {k : Nat} (hkD : k ≤ v.D) {g' : Nat → Nat} (hg : w.grownBy w' ((v.lA k).map (·.block))) (ho : OwnZ w' base 30 32 (v.lA k) (v.lm k) (v.lk k) (u8v g')) : TM w' base T { v with g := fun j => if j = k then g' else v.g j } := by
  obtain ⟨hk, hz⟩ := h.other2 (r0 := k + 3) (A := v.lA k) (fun b hb => ⟨hkD, hb⟩) hg
  exact {
    baseT := h.baseT
    row := h.row.of_block (hk 0 T rfl (by omega))
    zr := by
      intro h0
      obtain ⟨ad, e, hb, hc⟩ := h.zr h0
      refine ⟨ad, e, Nat.lt_of_lt_of_le hb hg.size, fun i hi => ?_⟩
      rw [← hc i hi]
      exact World.cell?_of_block (by rw [block_of_add]; exact hz _ ⟨ad, e, rfl⟩)
    zb := h.zb
    baseL := h.baseL
    lrow := by
      obtain ⟨F, hF, h1⟩ := h.lrow
      exact ⟨F, hF.of_block (hk 1 v.lb rfl (by omega)), h1⟩
    lcap := h.lcap
    lv := fun j hj => by
      simp only
      by_cases e : j = k
      · subst e; rw [if_pos rfl]; exact ho
      · rw [if_neg e]; exact (h.lv j hj).blk fun ad e2 => hk (j + 3) _ ⟨hj, ad, e2, rfl⟩ (by omega)
    dr := h.dr.blk fun ad e => hk 2 _ ⟨ad, e, rfl⟩ (by omega)
    apart := h.apart
    zapart := h.zapart }
end
/-- What a method may do: change the tree's own blocks, and make new ones. -/
structure TStep (w w' : World) (T : Nat) (v v' : TV) : Prop where
  chg : Chg (v.own T) w w'
  new : ∀ b, v'.own T b → v.own T b ∨ w.heap.size ≤ b
  zA : v'.zA = v.zA
  D : v'.D = v.D
  lim : v'.lim = v.lim
section
variable {w w1 w' : World} {base T : Nat} {v v1 v' : TV}
theorem TStep.refl (h : Below w.heap.size w w') : TStep w w' T v v := ⟨(Chg.of_below h).mono (fun _ _ h => h), fun _ hb => .inl hb, rfl, rfl, rfl⟩
theorem TStep.trans (h : TStep w w1 T v v1) (k : TStep w1 w' T v1 v') : TStep w w' T v v' :=
  ⟨h.chg.trans k.chg h.new, fun _ hb => by
    rcases k.new _ hb with h1 | h1
    · exact h.new _ h1
    · exact .inr (Nat.le_trans h.chg.size h1), k.zA.trans h.zA, k.D.trans h.D, k.lim.trans h.lim⟩
/-- Memory below a tree's base stays. -/
theorem TStep.below (h : TStep w w' T v v') (hm : TM w base T v) {B : Nat} (hB : B ≤ base) (hBw : B ≤ w.heap.size) : Below B w w' := h.chg.below hBw (fun _ hb => Nat.le_trans hB (hm.ge hb))
end
section
variable {w w' : World} {base T : Nat} {v : TV}
theorem own_onA {A : Option Addr} {k : Nat} (h : some k = A.map (·.block)) : OnA A k := by
  cases hd : A with
  | none => rw [hd] at h; cases h
  | some ad => rw [hd] at h; injection h with h; exact ⟨ad, rfl, h.symm⟩
theorem TStep.ofSet {r : Option Nat} (hg : w.grownBy w' r) {b i : Nat} (u : Value) {v' : TV} (hr : ∀ k, some k = r → v.own T k) (hb : v.own T b) (hn : ∀ b, v'.own T b → v.own T b ∨ w.heap.size ≤ b) (hz : v'.zA = v.zA) (hD : v'.D = v.D) (hl : v'.lim = v.lim) : TStep w (w'.setCell ⟨b, i, none⟩ u) T v v' :=
  ⟨⟨hg.os, hg.tape, hg.output, by simpa [World.setCell] using hg.size, fun k hk hno => (Below.heap_setCell w' _ _ k (fun e => hno (by rw [show k = b from e]; exact hb))).trans (hg.block k hk (fun e => hno (hr k e)))⟩, hn, hz, hD, hl⟩
theorem TStep.ofD {A' : Option Addr} {n' c' : Nat} {dw' : Nat → Nat} (hg : w.grownBy w' (v.dA.map (·.block))) (hA : ∀ b, OnA A' b → OnA v.dA b ∨ w.heap.size ≤ b) : TStep w (w'.setCell ⟨T, 3, none⟩ (.slice A' n' c')) T v { v with dA := A', dn := n', dc := c', dw := dw' } :=
  TStep.ofSet hg _ (fun _ e => ⟨2, own_onA e⟩) ⟨0, rfl⟩ (fun b ⟨r, hr⟩ => by
    match r, hr with
    | 0, hr => exact .inl ⟨0, hr⟩
    | 1, hr => exact .inl ⟨1, hr⟩
    | 2, hr =>
      rcases hA b hr with h1 | h1
      · exact .inl ⟨2, h1⟩
      · exact .inr h1
    | k + 3, hr => exact .inl ⟨k + 3, hr⟩) rfl rfl rfl
theorem TStep.ofW {dw' : Nat → Nat} (hg : w.grownBy w' (v.dA.map (·.block))) : TStep w w' T v { v with dw := dw' } :=
  ⟨Chg.of_grown hg (fun _ e => .inl ⟨2, own_onA e.symm⟩), fun _ ⟨r, hr⟩ => .inl ⟨r, hr⟩, rfl, rfl, rfl⟩
theorem TStep.ofG {k : Nat} (hk : k ≤ v.D) {g' : Nat → Nat → Nat} (hg : w.grownBy w' ((v.lA k).map (·.block))) : TStep w w' T v { v with g := g' } :=
  ⟨Chg.of_grown hg (fun _ e => .inl ⟨k + 3, hk, own_onA e.symm⟩), fun _ ⟨r, hr⟩ => .inl ⟨r, hr⟩, rfl, rfl, rfl⟩
theorem TStep.ofH (H' : Nat) : TStep w (w.setCell ⟨T, 4, none⟩ (.int .i64 (H' : Int))) T v { v with H := H' } :=
  TStep.ofSet (World.grownBy.refl w none) _ (fun _ e => by cases e) ⟨0, rfl⟩ (fun _ ⟨r, hr⟩ => .inl ⟨r, hr⟩) rfl rfl rfl
theorem TStep.ofL {k : Nat} (hk : k ≤ v.D) {A' : Option Addr} {n' c' : Nat} {g' : Nat → Nat} (hg : w.grownBy w' ((v.lA k).map (·.block))) (hA : ∀ b, OnA A' b → OnA (v.lA k) b ∨ w.heap.size ≤ b) :
    TStep w (w'.setCell ⟨v.lb, k, none⟩ (.slice A' n' c')) T v { v with lA := fun j => if j = k then A' else v.lA j, lm := fun j => if j = k then n' else v.lm j, lk := fun j => if j = k then c' else v.lk j, g := fun j => if j = k then g' else v.g j } :=
  TStep.ofSet hg _ (fun _ e => ⟨k + 3, hk, own_onA e⟩) ⟨1, rfl⟩ (fun b ⟨r, hr⟩ => by
    match r, hr with
    | 0, hr => exact .inl ⟨0, hr⟩
    | 1, hr => exact .inl ⟨1, hr⟩
    | 2, hr => exact .inl ⟨2, hr⟩
    | j + 3, hr =>
      obtain ⟨hj, hr⟩ := hr
      simp only at hj hr
      by_cases e : j = k
      · rw [if_pos e] at hr
        rcases hA b hr with h1 | h1
        · exact .inl ⟨k + 3, hk, h1⟩
        · exact .inr h1
      · rw [if_neg e] at hr; exact .inl ⟨j + 3, hj, hr⟩) rfl rfl rfl
/-- The blocks of an append's answer. -/
theorem app_on {A A' : Option Addr} (ha : ∀ ad, A' = some ad → some ad.block = A.map (·.block) ∨ ad.block = w.heap.size) : ∀ b, OnA A' b → OnA A b ∨ w.heap.size ≤ b := fun b ⟨ad, e, hb⟩ => by
  rcases ha ad e with h1 | h1
  · exact .inl (own_onA (by rw [← hb]; exact h1))
  · exact .inr (by omega)
theorem TM.rowD (h : TM w base T v) {r0 : Nat} (h0 : r0 ≠ 0) {A : Option Addr} (hA : ∀ b, OnA A b → v.role T r0 b) (hg : w.grownBy w' (A.map (·.block))) : w'.rowIs T 58 5 v.F := h.row.of_block ((h.other2 hA hg).1 0 T rfl (by omega))
theorem TM.base_le (h : TM w base T v) : base ≤ w.heap.size := Nat.le_of_lt (Nat.lt_of_le_of_lt h.baseT h.row.lt)
end
/-- A cell is laid. -/
theorem wpList_stC {P : Program} {ops : Array Oper} {rest : List Oper} {o : Oper} {a : Act} {w : World} {Q : Exit → Act → World → Prop} (hgd : o.guard = none) (ty : TypeId) (x y : Operand) (ho : o.op = .store ty x y) {b n : Nat} {t : TypeId} {f : Nat → Value} (hr : w.rowIs b t n f) (k : Nat) (hk : k < n) (v : Value)
    (hst : ∀ (w : World) (ad : Addr) (u : Value), w.cell? ad = some u → w.frozen? ad = false → (Instr.storeAt ty (.pointer (some ad)) v).run P w = .ok () (w.setCell ad v)) (hx : a.eval x = .pointer (some ⟨b, k, none⟩)) (hy : a.eval y = v)
    (hK : wpList P ops Q rest (a.put o.dst undef) (w.setCell ⟨b, k, none⟩ v)) : wpList P ops Q (o :: rest) a w :=
  wpList_plain hgd fun _ hK' => by
    have hs : HS w w [⟨b, t, n, f⟩] := (HS.nil w).take hr (by simp)
    have hrun := hst w ⟨b, k, none⟩ _ (hs.cell 0 k rfl hk) (hs.frozen 0 k rfl)
    unfold Oper.wp execOp
    simp only [ho, hx, hy, Sem.run_bind, hrun, Result.andThen_ok, Sem.run_pure]
    exact hK' _ _ hK
/-- The same, of an operation by itself. -/
theorem wp_stC {P : Program} {o : Oper} {a : Act} {w : World} {K : Act → World → Prop} {Q : Exit → Act → World → Prop} (ty : TypeId) (x y : Operand) (ho : o.op = .store ty x y) {b n : Nat} {t : TypeId} {f : Nat → Value} (hr : w.rowIs b t n f) (k : Nat) (hk : k < n) (v : Value)
    (hst : ∀ (w : World) (ad : Addr) (u : Value), w.cell? ad = some u → w.frozen? ad = false → (Instr.storeAt ty (.pointer (some ad)) v).run P w = .ok () (w.setCell ad v)) (hx : a.eval x = .pointer (some ⟨b, k, none⟩)) (hy : a.eval y = v)
    (hK : K (a.put o.dst undef) (w.setCell ⟨b, k, none⟩ v)) : o.wp P a w K Q := by
  have hs : HS w w [⟨b, t, n, f⟩] := (HS.nil w).take hr (by simp)
  have hrun := hst w ⟨b, k, none⟩ _ (hs.cell 0 k rfl hk) (hs.frozen 0 k rfl)
  unfold Oper.wp execOp
  simp only [ho, hx, hy, Sem.run_bind, hrun, Result.andThen_ok, Sem.run_pure]
  exact hK
/-- A cell of a list that is one's own is laid: what it reads as then. -/
theorem OwnZ.setC {w : World} {base z n c b : Nat} {e : TypeId} {f g : Nat → Value} (h : OwnZ w base e z (some ⟨b, 0, none⟩) n c f) (k : Nat) (v : Value) (hg : ∀ j, j < n * z → (if j = k then v else f j) = g j) : OwnZ (w.setCell ⟨b, k, none⟩ v) base e z (some ⟨b, 0, none⟩) n c g ∧ w.grownBy (w.setCell ⟨b, k, none⟩ v) (some b) := by
  obtain ⟨F, hr, hF, hb⟩ := h.row
  refine ⟨OwnZ.of_rowC (hr.set k v) hb h.cap h.capM (fun i hi => by rw [← hg i hi]; simp only [hF i hi]), grown_setCell (World.grownBy.refl _ _) (.inl rfl) _⟩
end Go.Proofs.YtlcpflaofggmeaaDoor
/- Stores into a state's own lists. (Printed by a program of mine.) -/
namespace Go.Proofs.YtlcpflaofggmeaaDoor
set_option maxRecDepth 40000
open Go.RowKit
theorem own_some {w : World} {base z n c : Nat} {e : TypeId} {A : Option Addr} {f : Nat → Value} (h : OwnZ w base e z A n c f) (hn : 0 < n) : ∃ bl, A = some ⟨bl, 0, none⟩ := by
  obtain ⟨g, cap, hv, hb, hlt⟩ := World.ownsRow.form h hn
  exact ⟨g, by injection hv⟩
namespace PickRich
theorem stop_here {p : Prop} (h : Hid p) : p := h.out
end PickRich
end Go.Proofs.YtlcpflaofggmeaaDoor
/- A changed leaf is marked. (Printed by a program of mine.) -/
namespace Go.Proofs.YtlcpflaofggmeaaDoor
set_option maxRecDepth 40000
open Go.RowKit
/-- Which leaves are marked. -/
def dirB (n : Nat) (dw : Nat → Nat) (a : Nat) : Bool := decide (a / 64 < n) && (dw (a / 64)).testBit (a % 64)
namespace TreeMark
theorem shr6 (i k : Nat) (hk : i / 64 = k) (w : World) : (binOp .shr 3 (.int .i64 (i : Int)) (.int .u64 6)).run Tryd.prog w = .ok (.int .i64 (k : Int)) w := by
  subst hk
  simp [go_sem]
theorem and63 (i r : Nat) (hr : i % 64 = r) (hi : i < 4611686018427387904) (w : World) : (binOp .and 3 (.int .i64 (i : Int)) (.int .i64 63)).run Tryd.prog w = .ok (.int .i64 (r : Int)) w := by
  have h2 : bits .and .i64 (i : Int) 63 = (r : Int) := by
    show IntKind.i64.wrap ((BitVec.ofInt 64 (i : Int) &&& BitVec.ofInt 64 (63 : Int)).toNat : Int) = _
    rw [BitVec.toNat_and, BitVec.ofInt_natCast, BitVec.toNat_ofNat, Nat.mod_eq_of_lt (by omega), show (BitVec.ofInt 64 (63 : Int)).toNat = 2 ^ 6 - 1 by rfl, Nat.and_two_pow_sub_one_eq_mod]
    simp [IntKind.wrap, IntKind.bits, IntKind.signed]
    omega
  simp [go_sem, h2]
theorem shl1 (r p : Nat) (hp : 2 ^ r = p) (hr : r < 64) (w : World) : (binOp .shl 65 (.int .u64 1) (.int .i64 (r : Int))).run Tryd.prog w = .ok (.int .u64 (p : Int)) w := by
  have h1 : 2 ^ r ≤ 2 ^ 63 := Nat.pow_le_pow_right (by omega) (by omega)
  have h2 : ((2 ^ r : Nat) : Int) ≤ 9223372036854775808 := by have : (2 : Nat) ^ 63 = 9223372036854775808 := by decide
                                                              omega
  have h0 : (0 : Int) ≤ ((2 ^ r : Nat) : Int) := Int.natCast_nonneg _
  have e : ((2 ^ r : Nat) : Int) = (2 : Int) ^ r := by simp
  subst hp
  rw [e] at h2 h0
  simp [go_sem, IntKind.wrap, IntKind.bits, IntKind.signed]
  generalize (2 : Int) ^ r = y at h2 h0
  rw [Int.emod_eq_of_lt h0 (by omega)]
theorem orW (a b o : Nat) (ho : a ||| b = o) (ha : a < 18446744073709551616) (hb : b < 18446744073709551616) (w : World) : (binOp .or 65 (.int .u64 (a : Int)) (.int .u64 (b : Int))).run Tryd.prog w = .ok (.int .u64 (o : Int)) w := by
  subst ho
  exact ShufFn.orU a b ha hb w
theorem ixW (w : World) (b n c k : Nat) (hk : k < n) : (Instr.indexAt 56 (.slice (some ⟨b, 0, none⟩) n c) (.int .i64 (k : Int))).run Tryd.prog w = .ok (.pointer (some ⟨b, k, none⟩)) w := by
  have h := run_idxZ (z := 1) (k := k) (P := Tryd.prog) (c := c) w Tryd.underlying56 (by kernel_rfl) ⟨b, 0, none⟩ hk
  rw [add_lit0, Nat.mul_one] at h
  exact h
theorem geI (a b : Nat) (h : b ≤ a) (w : World) : (binOp .geq 3 (.int .i64 (a : Int)) (.int .i64 (b : Int))).run Tryd.prog w = .ok (.bool true) w := by
  simp [go_sem]; omega
theorem geI' (a b : Nat) (h : a < b) (w : World) : (binOp .geq 3 (.int .i64 (a : Int)) (.int .i64 (b : Int))).run Tryd.prog w = .ok (.bool false) w := by
  simp [go_sem]; omega
theorem run_bs1_0 (w : World) : (Instr.buildSlice 56 1 #[(0, .int .u64 0)]).run Tryd.prog w = .ok (.slice (some ⟨w.heap.size, 0, none⟩) 1 1) (w.alloc (.cells #[.int .u64 0] 65)) := by simp [go_sem]
theorem stSl (A : Option Addr) (n c : Nat) (w : World) (ad : Addr) (u : Value) (h : w.cell? ad = some u) (hf : w.frozen? ad = false) : (Instr.storeAt 56 (.pointer (some ad)) (.slice A n c)).run Tryd.prog w = .ok () (w.setCell ad (.slice A n c)) := by
  simp [go_sem, h, hf]
/-- The bitmap's words behind one more, that is 0. -/
def moreW (n : Nat) (dw : Nat → Nat) : Nat → Nat := fun k => if k < n then dw k else 0
theorem cat_more (n : Nat) (dw : Nat → Nat) : ∀ i, i < (n + 1) * 1 → catF (n * 1) (u64v dw) (fun _ => .int .u64 0) i = u64v (moreW n dw) i := fun i _ => by
  simp only [catF, u64v, moreW, Nat.mul_one]
  split <;> rfl
theorem dir_more (n : Nat) (dw : Nat → Nat) (a : Nat) : dirB (n + 1) (moreW n dw) a = dirB n dw a := by
  unfold dirB moreW
  by_cases h : a / 64 < n
  · rw [if_pos h]; simp [h, show a / 64 < n + 1 by omega]
  · rw [if_neg h]; simp [h]
theorem dir_or (n : Nat) (dw dw' : Nat → Nat) (i : Nat) (hi : i / 64 < n) (h : ∀ k, k < n → dw' k = if k = i / 64 then dw k ||| 2 ^ (i % 64) else dw k) (a : Nat) : dirB n dw' a = (dirB n dw a || a == i) := by
  unfold dirB
  by_cases hn : a / 64 < n
  · simp only [hn, decide_true, Bool.true_and]
    rw [h _ hn]
    by_cases hk : a / 64 = i / 64
    · rw [if_pos hk, Nat.testBit_or, Nat.testBit_two_pow]
      congr 1
      by_cases hr : i % 64 = a % 64
      · have : a = i := by omega
        simp [hr, this]
      · have : ¬ a = i := fun e => hr (by rw [e])
        simp [hr, this]
    · rw [if_neg hk]
      have : ¬ a = i := fun e => hk (by rw [e])
      simp [this]
  · have : ¬ a = i := fun e => hn (by rw [e]; exact hi)
    simp [hn, this]
/-- How many words the bitmap still needs. -/
def wordsLeft (k T : Nat) (w : World) : Nat := match w.cell? ⟨T, 3, none⟩ with | some (.slice _ m _) => k + 1 - m | _ => 0
theorem wordsLeft_eq {k T m c : Nat} {A : Option Addr} {w : World} (h : w.cell? ⟨T, 3, none⟩ = some (.slice A m c)) : wordsLeft k T w = k + 1 - m := by
  unfold wordsLeft; rw [h]
theorem lt_more {n : Nat} {dw : Nat → Nat} (h : ∀ k, k < n → dw k < 18446744073709551616) : ∀ k, k < n + 1 → moreW n dw k < 18446744073709551616 := fun k _ => by
  unfold moreW
  split
  · exact h k (by assumption)
  · omega
theorem lt_set {n o q : Nat} {dw : Nat → Nat} (ho : o < 18446744073709551616) (h : ∀ k, k < n → dw k < 18446744073709551616) : ∀ k, k < n → (fun k => if k = q then o else dw k) k < 18446744073709551616 := fun k hk => by
  show (if k = q then o else dw k) < _
  split
  · exact ho
  · exact h k hk
theorem or_set {i k r p o n : Nat} {dw : Nat → Nat} (hk : k = i / 64) (hr : i % 64 = r) (hp : 2 ^ r = p) (ho : dw k ||| p = o) : ∀ q, q < n → (fun q => if q = k then o else dw q) q = if q = i / 64 then dw q ||| 2 ^ (i % 64) else dw q := fun q _ => by
  rw [← hk, hr, hp]
  show (if q = k then o else dw q) = _
  by_cases e : q = k
  · rw [if_pos e, if_pos e, e, ho]
  · rw [if_neg e, if_neg e]
end TreeMark
open TreeMark in
set_option maxHeartbeats 8000000 in
theorem mark_look (v : TV) (base T i : Nat) (hi : i < 4611686018427387904) (w : World) (h : TM w base T v) (hdw : ∀ k, k < v.dn → v.dw k < 18446744073709551616) (hi2 : i / 64 < 1073741824) :
    Calls Tryd.prog 26 #[tpV T, .int .i64 (i : Int)] w fun r w' => ∃ A' n' c' dw', r = .returned (.tuple #[]) ∧ TM w' base T { v with dA := A', dn := n', dc := c', dw := dw' } ∧ TStep w w' T v { v with dA := A', dn := n', dc := c', dw := dw' } ∧
      (∀ k, k < n' → dw' k < 18446744073709551616) ∧ (n' = v.dn ∨ n' = i / 64 + 1) ∧ ∀ a, dirB n' dw' a = (dirB v.dn v.dw a || a == i) := by
  have H0 := Lib.hid h
  have HD0 := Lib.hid hdw
  obtain ⟨k, hk⟩ : ∃ k, k = i / 64 := ⟨_, rfl⟩
  have HKd := Lib.hid hk
  have hk1 : k * 64 ≤ i ∧ i < k * 64 + 64 := by omega
  rw [← hk] at hi2
  clear h hdw hk
  go_enter Tryd.func26, Tryd.ntmps26
  go_wp2_with fail
  go_loopw [] (fun wr => ∃ (A1 : Option Addr) (n1 c1 : Nat) (dw1 : Nat → Nat), TM wr base T { v with dA := A1, dn := n1, dc := c1, dw := dw1 } ∧ TStep w wr T v { v with dA := A1, dn := n1, dc := c1, dw := dw1 } ∧ (∀ k, k < n1 → dw1 k < 18446744073709551616) ∧ (n1 = v.dn ∨ n1 ≤ k + 1 ∧ v.dn ≤ n1) ∧ ∀ a, dirB n1 dw1 a = dirB v.dn v.dw a) (fun wr => wordsLeft k T wr)
  case atStart => exact ⟨v.dA, v.dn, v.dc, v.dw, H0.out, TStep.refl (Below.refl _ _), HD0.out, .inl rfl, fun _ => rfl⟩
  case round =>
    obtain ⟨A1, n1, c1, dw1, hm, hst, hb, hn1, hdir⟩ := hrel
    have HM := Lib.hid hm
    have HST := Lib.hid hst
    have HB := Lib.hid hb
    have HDir := Lib.hid hdir
    have h3 := hm.c3
    clear hm hst hb hdir
    have hbw := HM.out.base_le
    by_cases hkn : n1 ≤ k
    · have HNq := Lib.hid (HS.nil wr)
      have hk64 : n1 < 1073741824 := by omega
      go_wp2_with (first
        | (refine wpList_as rfl 5 rfl (.int .i64 (k : Int)) ?_ ?_; (· exact ex_bin rfl rfl rfl rfl (fun w => shr6 i k HKd.out.symm w) _))
        | (refine wpList_as rfl 11 rfl (.bool true) ?_ ?_; (· exact ex_bin rfl rfl rfl rfl (fun w => geI k n1 hkn w) _))
        | (at_builtin; refine wpList_appZ _ (.tmp 16) (.tmp 17) 56 base (e := 65) (z := .int .u64 0) (k := 1) (bytes := 8) (by kernel_rfl) Tryd.underlying56 (by rfl) (by omega) rfl rfl (n1 + 1) (u64v (moreW n1 dw1)) rfl rfl HM5.out.dr (Rd.of_row (n := 1 * 1) HR5.out (Nat.le_refl _) HR5.out.lt) (fun _ _ => rfl) rfl (cat_more n1 dw1) ⟨by omega, by omega⟩ HM5.out.base_le ?_; intro A2 c2 w6 ho hg ha; have HT6 := Lib.hid (HM5.out.rowD (r0 := 2) (by omega) (fun b hb => hb) hg); have HM6 := Lib.hid (HM5.out.setD hg ho (app_on ha)); have HST6 := Lib.hid (TStep.ofD (T := T) (v := { v with dA := A1, dn := n1, dc := c1, dw := dw1 }) (n' := n1 + 1) (c' := c2) (dw' := moreW n1 dw1) hg (app_on ha)); clear ho hg ha)
        | (refine wpList_bs1s rfl (.const (.int .u64 0)) (.int .u64 0) rfl rfl (fun w => run_bs1_0 w) HNq.out ?_; intro b5 w5 hb5 hc5 hbl hs; have HR5 := Lib.hid (hs.row 0 rfl); have HM5 := Lib.hid (HM.out.below hbl); have HB5 := Lib.hid hbl; clear hs hbl)
        | (refine wpList_stC rfl 56 (.tmp 20) (.tmp 18) rfl HT6.out 3 (by omega) (.slice A2 (n1 + 1) c2) (stSl _ _ _) rfl rfl ?_; have HME := Lib.hid HM6.out; have HSE := Lib.hid ((HST.out.trans (TStep.refl HB5.out)).trans HST6.out); clear HM6 HST6 HT6))
      go_roundw
      case rel => exact ⟨A2, n1 + 1, c2, moreW n1 dw1, HME.out, HSE.out, lt_more HB.out, .inr ⟨by omega, by omega⟩, fun a => by rw [dir_more]; exact HDir.out a⟩
      case measure => rw [wordsLeft_eq HME.out.c3, wordsLeft_eq h3]; show k + 1 - (n1 + 1) < k + 1 - n1; omega
    · have hkn : k < n1 := by omega
      obtain ⟨bd, hbd⟩ := own_some HM.out.dr (by show 0 < n1; omega)
      simp only at hbd
      subst hbd
      obtain ⟨r, hr2⟩ : ∃ r, i % 64 = r := ⟨_, rfl⟩
      have hr : r < 64 := by omega
      obtain ⟨p, hp⟩ : ∃ p, 2 ^ r = p := ⟨_, rfl⟩
      have hp64 : p < 18446744073709551616 := by rw [← hp]; exact Nat.lt_of_le_of_lt (Nat.pow_le_pow_right (by omega) (show r ≤ 63 by omega)) (by decide)
      obtain ⟨o, ho2⟩ : ∃ o, dw1 k ||| p = o := ⟨_, rfl⟩
      have ho64 : o < 18446744073709551616 := by rw [← ho2]; exact Nat.or_lt_two_pow (n := 64) (HB.out k hkn) hp64
      have HR := Lib.hid hr2
      have HPw := Lib.hid hp
      have HOr := Lib.hid ho2
      have HDk := Lib.hid (HB.out k hkn)
      have HCk : Hid (∀ w', Below wr.heap.size wr w' → w'.cell? ⟨bd, k, none⟩ = some (.int .u64 ((dw1 k : Nat) : Int))) := Lib.hid (fun w' hb => by
        have hd : OwnZ w' base 65 1 (some ⟨bd, 0, none⟩) n1 c1 (u64v dw1) := (HM.out.below hb).dr
        have h1 := hd.rd.cells (i := k) (show k < n1 * 1 by omega)
        rw [add_lit0] at h1
        exact h1)
      clear hr2 hp ho2 h3
      go_upto_region 2 with (first
        | (refine wpList_as rfl 5 rfl (.int .i64 (k : Int)) ?_ ?_; (· exact ex_bin rfl rfl rfl rfl (fun w => shr6 i k HKd.out.symm w) _))
        | (refine wpList_as rfl 9 rfl (.slice (some ⟨bd, 0, none⟩) n1 c1) ?_ ?_; (· exact ex_ldSl rfl rfl Tryd.underlying56 HM.out.c3 rfl))
        | (refine wpList_as rfl 11 rfl (.bool false) ?_ ?_; (· exact ex_bin rfl rfl rfl rfl (fun w => geI' k n1 hkn w) _)))
      refine wp_region_factsS (l := [_, _, _, _, _, _, _, _, _, _, _, _, _]) (tl := []) (B := wr.heap.size) (w0 := wr) [SF.is (.pointer (some ⟨T, 0, none⟩)), SF.is (.pointer (some ⟨T, 0, none⟩)), SF.is (.pointer (some ⟨T, 3, none⟩)), SF.is (.slice (some ⟨bd, 0, none⟩) (n1) (c1)), SF.is (.int .i64 ((i : Nat) : Int)), SF.is (.int .i64 ((k : Nat) : Int)), SF.is (.pointer (some ⟨bd, k, none⟩)), SF.is (.int .u64 ((dw1 k : Nat) : Int)), SF.is (.int .i64 ((i : Nat) : Int)), SF.is (.int .i64 ((r : Nat) : Int)), SF.is (.int .u64 ((p : Nat) : Int)), SF.is (.int .u64 ((o : Nat) : Int)), SF.is (.pointer (some ⟨bd, k, none⟩))] (by kernel_rfl) (by kernel_rfl) rfl (Nat.le_refl _) (Below.refl _ _) ⟨?_, ?_, ?_, ?_, ?_, ?_, ?_, ?_, ?_, ?_, ?_, ?_, ?_, trivial⟩ ?_
      · exact (opOb_move _ rfl (.inl rfl) rfl)
      · exact opOb_nil _ rfl rfl (OpK.tmp rfl)
      · exact opOb_fld rfl rfl (OpK.tmp rfl) (fun w => by simp [go_sem])
      · exact opOb_ld rfl rfl (OpK.tmp rfl) (fun w' hb => PickDraw.run_ldSl w' _ _ _ _ ((HM.out.below hb).c3) Tryd.underlying56)
      · exact (opOb_move _ rfl (.inl rfl) rfl)
      · exact opOb_bin rfl rfl rfl (OpK.tmp rfl) OpK.const (fun w => shr6 i k HKd.out.symm w)
      · exact opOb_idx rfl rfl (OpK.tmp rfl) (OpK.tmp rfl) (fun w => ixW w bd n1 c1 k hkn)
      · exact opOb_ld rfl rfl (OpK.tmp rfl) (fun w' hb => run_ld1 w' _ _ .u64 _ (HCk.out w' hb) Tryd.underlying65)
      · exact (opOb_move _ rfl (.inl rfl) rfl)
      · exact opOb_bin rfl rfl rfl (OpK.tmp rfl) OpK.const (fun w => and63 i r HR.out hi w)
      · exact opOb_bin rfl rfl rfl OpK.const (OpK.tmp rfl) (fun w => shl1 r p HPw.out hr w)
      · exact opOb_bin rfl rfl rfl (OpK.tmp rfl) (OpK.tmp rfl) (fun w => orW (dw1 k) p o HOr.out HDk.out hp64 w)
      · exact opOb_idx rfl rfl (OpK.tmp rfl) (OpK.tmp rfl) (fun w => ixW w bd n1 c1 k hkn)
      · intro w' hb
        simp only [fin, SF.is, forall_eq]
        simp only [Act.put, List.setIfInBounds_toArray, List.set_cons_succ, List.set_cons_zero]
        have HM5 := Lib.hid (HM.out.below hb)
        have HS5 := Lib.hid (HST.out.trans (TStep.refl hb))
        clear hb
        have hcap : n1 ≤ c1 := HM5.out.dr.cap
        obtain ⟨F, hrow, _, _⟩ := HM5.out.dr.row
        refine wp_stC 65 (.tmp 33) (.tmp 32) rfl hrow k (show k < c1 * 1 by omega) (.int .u64 ((o : Nat) : Int)) (ShufLawOps.stU _) rfl rfl ?_
        have hset := HM5.out.dr.setC k (.int .u64 ((o : Nat) : Int)) (g := u64v fun q => if q = k then o else dw1 q) (fun j _ => by simp only [u64v]; split <;> rfl)
        have HM6 := Lib.hid (HM5.out.setW hset.2 hset.1)
        have HS6 := Lib.hid (HS5.out.trans (TStep.ofW (T := T) (v := { v with dA := some ⟨bd, 0, none⟩, dn := n1, dc := c1, dw := dw1 }) (dw' := fun q => if q = k then o else dw1 q) hset.2))
        clear hset hrow HM5 HS5 HM HST
        simp only [seqWp, Act.put]
        go_wp2_with fail
        go_end0
        exact ⟨rfl, some ⟨bd, 0, none⟩, n1, c1, fun q => if q = k then o else dw1 q, HM6.out, HS6.out, lt_set ho64 HB.out, by omega, fun a => by
          rw [dir_or n1 dw1 _ i (by omega) (or_set HKd.out HR.out HPw.out HOr.out) a, HDir.out a]⟩
end Go.Proofs.YtlcpflaofggmeaaDoor
