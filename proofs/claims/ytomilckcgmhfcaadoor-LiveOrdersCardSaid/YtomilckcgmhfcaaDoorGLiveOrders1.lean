/- A part of what the proofs stand on: TzLaid, LiveOrd, LiveTwo, Right2. -/
import Derived.Test.YtomilckcgmhfcaaDoorGLiv1
import Derived.Test.YtomilckcgmhfcaaDoorGLiv29
import Derived.Test.YtomilckcgmhfcaaDoorGLiv16
import Derived.KernelRfl
import Derived.Test.YtomilckcgmhfcaaDoorGLiv28
import Derived.Test.YtomilckcgmhfcaaDoorGLiv23
import Derived.Test.YtomilckcgmhfcaaDoorGLiv21
/- The table of math/bits, as it was laid. -/
namespace Go.Proofs.YtomilckcgmhfcaaDoor
set_option maxRecDepth 40000
open Go.RowKit Go.ChangeShapes Go.WideShapes Go.ChangeAt
def zsD : List Int := Go.Lib.deBruijn64tab.map fun n : Nat => (n : Int)
theorem zsD_at : ∀ i, i < 64 → zsD.getD i 0 = ((Go.Lib.deBruijn64tab.getD i 0 : Nat) : Int) := by decide +kernel
theorem tab_deBruijn {W : World} {rest : List (String × DataW Unit)} {ps : List MemPlace} (h : DataW.LaidVars Tryd.prog W (("math/bits.deBruijn64tab", Rows.laid_math_bits_deBruijn64tab) :: rest) ps) : ∀ i, i < 64 → W.cell? ⟨2, i, none⟩ = some (.int .u8 ((Go.Lib.deBruijn64tab.getD i 0 : Nat) : Int)) := fun i hi => by
 have h' : DataW.LaidVars Tryd.prog W (("math/bits.deBruijn64tab", Lib.tabData .u8 zsD) :: rest) ps := h
 have := tab_of (P := Tryd.prog) (g := 2) (t := 111) (e := 5) (n := 64) (by kernel_rfl) (by kernel_rfl) Tryd.underlying111 Tryd.underlying5 (by kernel_rfl) (by kernel_rfl) h' i hi
 rw [this, zsD_at i hi]
theorem tz_pkg {w : World} (h : ∀ i, i < 64 → w.cell? ⟨2, i, none⟩ = some (.int .u8 ((Go.Lib.deBruijn64tab.getD i 0 : Nat) : Int))) : TzPkg w := ⟨h, by
 have h0 := h 0 (by omega)
 rcases Nat.lt_or_ge 2 w.heap.size with h1 | h1
 ·exact h1
 ·exfalso
  have : w.heap[2]? = none := Array.getElem?_eq_none h1
  simp [World.cell?, this] at h0⟩
/-- What the witness's world holds. -/
def csD : Array Value := (zsD.map (Value.int .u8)).toArray
end Go.Proofs.YtomilckcgmhfcaaDoor
/- Changes of unlike validators: the plain law. -/
namespace Go.Proofs.YtomilckcgmhfcaaDoor
set_option maxRecDepth 40000
open Go.RowKit
/-- What stands where p holds has been changed. -/
def stP (t : StV) (N : Nat → Nat) (p : Nat → Bool) : StV := { t with
 Bal := fun j => if p j = true then .int .u64 ((N j % (nat (t.Bal j) + 1) : Nat) : Int) else t.Bal j
 Prv := fun j => if p j = true then .int .u8 ((N j % 256 : Nat) : Int) else t.Prv j
 Cur := fun j => if p j = true then .int .u8 ((3 : Nat) : Int) else t.Cur j
 Sco := fun j => if p j = true then .int .u64 ((N j % 1000 : Nat) : Int) else t.Sco j }
def pOr (k : Nat) (p : Nat → Bool) : Nat → Bool := fun j => decide (j = k) || p j
theorem sum_le {z y : Nat → Nat} : ∀ n, (∀ i, i < n → z i ≤ y i) → sumTo z n ≤ sumTo y n
 | 0, _ => Nat.le_refl _
 | n + 1, h => by
  have h1 := sum_le n (fun i hi => h i (by omega))
  have h2 := h n (by omega)
  show sumTo z n + z n ≤ sumTo y n + y n
  omega
theorem RightF.upd {s : StV} (h : RightF s) {B P C S : Nat → Value} (hb : ∀ i, i < s.nB → nat (B i) ≤ nat (s.Bal i)) (hs : ∀ i, i < s.nV → nat (S i) ≤ 1099511627776) : RightF { s with Bal := B, Prv := P, Cur := C, Sco := S } :=
 {n := h.n, nB := h.nB, nP := h.nP, nC := h.nC, nS := h.nS, nH := h.nH, nE := h.nE, slot := h.slot, dep := h.dep, head := h.head, oldJ := h.oldJ, just := h.just, fin := h.fin, sla := h.sla
  val := fun i hi => by
   obtain ⟨h1, h2, h3, h4, h5, h6, _⟩ := h.val i hi
   exact ⟨h1, h2, h3, h4, h5, h6, hs i hi⟩
  bal := Nat.le_trans (sum_le s.nB hb) h.bal }
section
variable {t : StV} {N : Nat → Nat} {p : Nat → Bool} {k : Nat}
theorem stP_bal (j : Nat) : nat ((stP t N p).Bal j) ≤ nat (t.Bal j) := by
 show nat (if p j = true then _ else _) ≤ _
 split
 ·rw [nat_int]; have := Nat.mod_lt (N j) (show 0 < nat (t.Bal j) + 1 by omega); omega
 ·exact Nat.le_refl _
theorem stP_sco (h : RightF t) (j : Nat) (hj : j < t.nV) : nat ((stP t N p).Sco j) ≤ 1099511627776 := by
 show nat (if p j = true then _ else _) ≤ _
 split
 ·rw [nat_int]; have := Nat.mod_lt (N j) (show 0 < 1000 by omega); omega
 ·exact (h.val j hj).2.2.2.2.2.2
theorem putC_bal {f g : Nat → Value} {v : Nat} (hf : ∀ j, nat (f j) ≤ nat (g j)) (hv : v ≤ nat (g k)) (j : Nat) : nat (putC f k (.int .u64 (v : Int)) j) ≤ nat (g j) := by
 show nat (if j = k then _ else _) ≤ _
 split
 ·rename_i e; subst e; rw [nat_int]; exact hv
 ·exact hf j
theorem putC_sco {f : Nat → Value} {v n : Nat} (hf : ∀ j, j < n → nat (f j) ≤ 1099511627776) (hv : v ≤ 1099511627776) (j : Nat) (hj : j < n) : nat (putC f k (.int .u64 (v : Int)) j) ≤ 1099511627776 := by
 show nat (if j = k then _ else _) ≤ _
 split
 ·rw [nat_int]; exact hv
 ·exact hf j hj
theorem putC_or {f : Nat → Value} {g : Nat → Value} : putC (fun j => if p j = true then g j else f j) k (g k) = fun j => if pOr k p j = true then g j else f j := by
 funext j
 show (if j = k then _ else _) = _
 unfold pOr
 by_cases e : j = k
 ·subst e; simp
 ·simp [e]
theorem putC_putC (f : Nat → Value) (u v : Value) : putC (putC f k u) k v = putC f k v := by
 funext j
 show (if j = k then _ else (if j = k then _ else _)) = (if j = k then _ else _)
 split <;> simp_all
theorem mod_le (m : Nat) (f : Nat → Value) : m % (nat (f k) + 1) ≤ nat (f k) := by have := Nat.mod_lt m (show 0 < nat (f k) + 1 by omega); omega
-- the first way: balance, score, flags
def sA1 (t : StV) (N : Nat → Nat) (p : Nat → Bool) (k : Nat) : StV := { stP t N p with Bal := putC (stP t N p).Bal k (.int .u64 ((N k % (nat (t.Bal k) + 1) : Nat) : Int)) }
def sA2 (t : StV) (N : Nat → Nat) (p : Nat → Bool) (k : Nat) : StV := { sA1 t N p k with Sco := putC (sA1 t N p k).Sco k (.int .u64 ((N k % 1000 : Nat) : Int)) }
def sA3 (t : StV) (N : Nat → Nat) (p : Nat → Bool) (k : Nat) : StV := { sA2 t N p k with Prv := putC (sA2 t N p k).Prv k (.int .u8 ((N k % 256 : Nat) : Int)), Cur := putC (sA2 t N p k).Cur k (.int .u8 ((3 : Nat) : Int)) }
theorem sA1_right (h : RightF t) : RightF (sA1 t N p k) := h.upd (B := putC (stP t N p).Bal k (.int .u64 ((N k % (nat (t.Bal k) + 1) : Nat) : Int))) (P := (stP t N p).Prv) (C := (stP t N p).Cur) (S := (stP t N p).Sco) (fun j _ => putC_bal stP_bal (mod_le _ _) j) (stP_sco h)
theorem sA2_right (h : RightF t) : RightF (sA2 t N p k) := h.upd (B := putC (stP t N p).Bal k (.int .u64 ((N k % (nat (t.Bal k) + 1) : Nat) : Int))) (P := (stP t N p).Prv) (C := (stP t N p).Cur) (S := putC (stP t N p).Sco k (.int .u64 ((N k % 1000 : Nat) : Int))) (fun j _ => putC_bal stP_bal (mod_le _ _) j) (putC_sco (stP_sco h) (by have := Nat.mod_lt (N k) (show 0 < 1000 by omega); omega))
theorem sA3_eq : sA3 t N p k = stP t N (pOr k p) := by
 unfold sA3 sA2 sA1 stP
 simp only [StV.mk.injEq, true_and, and_true]
 exact ⟨putC_or (g := fun j => .int .u64 ((N j % (nat (t.Bal j) + 1) : Nat) : Int)), putC_or (g := fun j => .int .u8 ((N j % 256 : Nat) : Int)), putC_or (g := fun _ => .int .u8 ((3 : Nat) : Int)), putC_or (g := fun j => .int .u64 ((N j % 1000 : Nat) : Int))⟩
-- the second way: flags, nothing, score, balance
def sB1 (t : StV) (N : Nat → Nat) (p : Nat → Bool) (k : Nat) : StV := { stP t N p with Prv := putC (stP t N p).Prv k (.int .u8 ((N k % 256 : Nat) : Int)), Cur := putC (stP t N p).Cur k (.int .u8 ((3 : Nat) : Int)) }
def sB2 (t : StV) (N : Nat → Nat) (p : Nat → Bool) (k : Nat) : StV := { sB1 t N p k with Bal := putC (sB1 t N p k).Bal k (.int .u64 ((0 : Nat) : Int)) }
def sB3 (t : StV) (N : Nat → Nat) (p : Nat → Bool) (k : Nat) : StV := { sB2 t N p k with Sco := putC (sB2 t N p k).Sco k (.int .u64 ((N k % 1000 : Nat) : Int)) }
def sB4 (t : StV) (N : Nat → Nat) (p : Nat → Bool) (k : Nat) : StV := { sB3 t N p k with Bal := putC (sB3 t N p k).Bal k (.int .u64 ((N k % (nat (t.Bal k) + 1) : Nat) : Int)) }
theorem sB1_right (h : RightF t) : RightF (sB1 t N p k) := h.upd (B := (stP t N p).Bal) (P := putC (stP t N p).Prv k (.int .u8 ((N k % 256 : Nat) : Int))) (C := putC (stP t N p).Cur k (.int .u8 ((3 : Nat) : Int))) (S := (stP t N p).Sco) (fun j _ => stP_bal j) (stP_sco h)
theorem sB2_right (h : RightF t) : RightF (sB2 t N p k) := h.upd (B := putC (stP t N p).Bal k (.int .u64 ((0 : Nat) : Int))) (P := putC (stP t N p).Prv k (.int .u8 ((N k % 256 : Nat) : Int))) (C := putC (stP t N p).Cur k (.int .u8 ((3 : Nat) : Int))) (S := (stP t N p).Sco) (fun j _ => putC_bal stP_bal (Nat.zero_le _) j) (stP_sco h)
theorem sB3_right (h : RightF t) : RightF (sB3 t N p k) := h.upd (B := putC (stP t N p).Bal k (.int .u64 ((0 : Nat) : Int))) (P := putC (stP t N p).Prv k (.int .u8 ((N k % 256 : Nat) : Int))) (C := putC (stP t N p).Cur k (.int .u8 ((3 : Nat) : Int))) (S := putC (stP t N p).Sco k (.int .u64 ((N k % 1000 : Nat) : Int))) (fun j _ => putC_bal stP_bal (Nat.zero_le _) j) (putC_sco (stP_sco h) (by have := Nat.mod_lt (N k) (show 0 < 1000 by omega); omega))
theorem sB4_eq : sB4 t N p k = stP t N (pOr k p) := by
 unfold sB4 sB3 sB2 sB1 stP
 simp only [StV.mk.injEq, true_and, and_true, putC_putC]
 exact ⟨putC_or (g := fun j => .int .u64 ((N j % (nat (t.Bal j) + 1) : Nat) : Int)), putC_or (g := fun j => .int .u8 ((N j % 256 : Nat) : Int)), putC_or (g := fun _ => .int .u8 ((3 : Nat) : Int)), putC_or (g := fun j => .int .u64 ((N j % 1000 : Nat) : Int))⟩
theorem stP_right (h : RightF t) : RightF (stP t N p) := h.upd (B := (stP t N p).Bal) (P := (stP t N p).Prv) (C := (stP t N p).Cur) (S := (stP t N p).Sco) (fun j _ => stP_bal j) (stP_sco h)
theorem sA3_right (h : RightF t) : RightF (sA3 t N p k) := by rw [sA3_eq]; exact stP_right h
theorem sB4_right (h : RightF t) : RightF (sB4 t N p k) := by rw [sB4_eq]; exact stP_right h
theorem stP_none (h : ∀ j, p j = false) : stP t N p = t := by
 unfold stP
 have e : p = fun _ => false := funext h
 subst e
 simp
theorem pOr_up : pOr k (fun j => decide (j < k)) = fun j => decide (j < k + 1) := by
 funext j
 unfold pOr
 by_cases h : j = k <;> by_cases h1 : j < k <;> simp [h, h1] <;> omega
theorem pOr_down (n : Nat) (h : k < n) : pOr k (fun j => decide (k + 1 ≤ j ∧ j < n)) = fun j => decide (k ≤ j ∧ j < n) := by
 funext j
 unfold pOr
 rw [Bool.eq_iff_iff]
 simp
 omega
/-- Both ways, one root. -/
theorem stP_seq {s t u : StV} (e : SameS s t) (d : SameS s u) {p q : Nat → Bool} (h : ∀ j, p j = q j) : SEq (stP t N p) (stP u N q) := by
 have hp : p = q := funext h
 subst hp
 have eB : u.Bal = t.Bal := d.Bal.trans e.Bal.symm
 have eP : u.Prv = t.Prv := d.Prv.trans e.Prv.symm
 have eC : u.Cur = t.Cur := d.Cur.trans e.Cur.symm
 have eS : u.Sco = t.Sco := d.Sco.trans e.Sco.symm
 refine ⟨d.nV.trans e.nV.symm, d.nB.trans e.nB.symm, d.nP.trans e.nP.symm, d.nC.trans e.nC.symm, d.nS.trans e.nS.symm, d.nH.trans e.nH.symm, d.nE.trans e.nE.symm, fun i _ h1 h2 h3 h4 h5 h6 h7 => (d.F i h1 h2 h3 h4 h5 h6 h7).trans (e.F i h1 h2 h3 h4 h5 h6 h7).symm, fun i _ => congrFun (d.V.trans e.V.symm) i, fun i _ => ?_, fun i _ => ?_, fun i _ => ?_, fun i _ => ?_, fun i _ => congrFun (d.His.trans e.His.symm) i, fun i _ => congrFun (d.Vot.trans e.Vot.symm) i⟩
 ·show (if _ then _ else u.Bal i) = (if _ then _ else t.Bal i); rw [eB]
 ·show (if _ then _ else u.Prv i) = (if _ then _ else t.Prv i); rw [eP]
 ·show (if _ then _ else u.Cur i) = (if _ then _ else t.Cur i); rw [eC]
 ·show (if _ then _ else u.Sco i) = (if _ then _ else t.Sco i); rw [eS]
end
end Go.Proofs.YtomilckcgmhfcaaDoor
/- Two live states side by side. -/
namespace Go.Proofs.YtomilckcgmhfcaaDoor
set_option maxRecDepth 40000
open Go.RowKit
structure LL2 (w : World) (B1 L1 : Nat) (s1 : StV) (T1 : Nat → Nat) (v1 : Nat → TV) (h1 B2 L2 : Nat) (s2 : StV) (T2 : Nat → Nat) (v2 : Nat → TV) (h2 : Nat) : Prop where
 la : LV w B1 L1 s1 T1 v1 h1
 lb : LV w B2 L2 s2 T2 v2 h2
 d1 : ∀ b, LOwn L1 s1 T1 v1 b ∨ LZer v1 b → ¬ LOwn L2 s2 T2 v2 b
 d2 : ∀ b, LOwn L2 s2 T2 v2 b ∨ LZer v2 b → ¬ LOwn L1 s1 T1 v1 b
theorem LV.other {w w' : World} {B1 L1 h1 L2 : Nat} {s1 s2 s2' : StV} {T1 T2 T2' : Nat → Nat} {v1 v2 v2' : Nat → TV} (h : LV w B1 L1 s1 T1 v1 h1) (k : LStep w w' L2 s2 T2 v2 s2' T2' v2') (hd : ∀ b, LOwn L1 s1 T1 v1 b ∨ LZer v1 b → ¬ LOwn L2 s2 T2 v2 b) : LV w' B1 L1 s1 T1 v1 h1 :=
 ⟨h.lm.other k hd, h.st, h.lim, h.D, h.H, h.right⟩
section
variable {w w' : World} {B1 L1 h1 B2 L2 h2 h' : Nat} {s1 s2 s' : StV} {T1 T2 : Nat → Nat} {v1 v2 v' : Nat → TV}
theorem LL2.below (h : LL2 w B1 L1 s1 T1 v1 h1 B2 L2 s2 T2 v2 h2) (hb : Below w.heap.size w w') : LL2 w' B1 L1 s1 T1 v1 h1 B2 L2 s2 T2 v2 h2 := ⟨h.la.below hb, h.lb.below hb, h.d1, h.d2⟩
theorem LL2.stepA (h : LL2 w B1 L1 s1 T1 v1 h1 B2 L2 s2 T2 v2 h2) (hl : LV w' B1 L1 s' T1 v' h') (hk : LStep w w' L1 s1 T1 v1 s' T1 v') : LL2 w' B1 L1 s' T1 v' h' B2 L2 s2 T2 v2 h2 :=
 ⟨hl, h.lb.other hk h.d2, fun b hb ho => by
  rcases hb with hb | hb
  ·rcases hk.newO b hb with h3 | h3
   ·exact h.d1 b (.inl h3) ho
   ·have := h.lb.lm.lt ho; omega
  ·rcases hk.newZ b hb with h3 | h3
   ·exact h.d1 b (.inr h3) ho
   ·have := h.lb.lm.lt ho; omega, fun b hb ho => by
  rcases hk.newO b ho with h3 | h3
  ·exact h.d2 b hb h3
  ·rcases hb with hb | hb
   ·have := h.lb.lm.lt hb; omega
   ·have := h.lb.lm.zlt hb; omega⟩
theorem LL2.swap (h : LL2 w B1 L1 s1 T1 v1 h1 B2 L2 s2 T2 v2 h2) : LL2 w B2 L2 s2 T2 v2 h2 B1 L1 s1 T1 v1 h1 := ⟨h.lb, h.la, h.d2, h.d1⟩
theorem LL2.stepB (h : LL2 w B1 L1 s1 T1 v1 h1 B2 L2 s2 T2 v2 h2) (hl : LV w' B2 L2 s' T2 v' h') (hk : LStep w w' L2 s2 T2 v2 s' T2 v') : LL2 w' B1 L1 s1 T1 v1 h1 B2 L2 s' T2 v' h' := (h.swap.stepA hl hk).swap
/-- Two new ones. -/
theorem LL2.start (ha : LV w B1 L1 s1 T1 v1 h1) (hb : Below w.heap.size w w') (hl : LV w' w.heap.size L2 s2 T2 v2 h2) : LL2 w' B1 L1 s1 T1 v1 h1 w.heap.size L2 s2 T2 v2 h2 :=
 ⟨ha.below hb, hl, fun b hb' ho => by
  have := hl.lm.ge ho
  rcases hb' with h3 | h3
  ·have := ha.lm.lt h3; omega
  ·have := ha.lm.zlt h3; omega, fun b hb' ho => by
  have := ha.lm.lt ho
  rcases hb' with h3 | h3
  ·have := hl.lm.ge h3; omega
  ·obtain ⟨j, hj, hz⟩ := h3
   have := (hl.lm.tm j hj).zb b hz; omega⟩
end
theorem LV.up {w : World} {B L h h' : Nat} {s : StV} {T : Nat → Nat} {v : Nat → TV} (k : LV w B L s T v h) (hh : h ≤ h') : LV w B L s T v h' := ⟨k.lm, k.st, k.lim, k.D, fun j hj => Nat.le_trans (k.H j hj) hh, k.right⟩
theorem LL2.upB {w : World} {B1 L1 h1 B2 L2 h2 h' : Nat} {s1 s2 : StV} {T1 T2 : Nat → Nat} {v1 v2 : Nat → TV} (k : LL2 w B1 L1 s1 T1 v1 h1 B2 L2 s2 T2 v2 h2) (hh : h2 ≤ h') : LL2 w B1 L1 s1 T1 v1 h1 B2 L2 s2 T2 v2 h' := ⟨k.la, k.lb.up hh, k.d1, k.d2⟩
theorem LL2.upAB {w : World} {B1 L1 h1 B2 L2 h2 h3 h4 : Nat} {s1 s2 : StV} {T1 T2 : Nat → Nat} {v1 v2 : Nat → TV} (k : LL2 w B1 L1 s1 T1 v1 h1 B2 L2 s2 T2 v2 h2) (ha : h1 ≤ h3) (hh : h2 ≤ h4) : LL2 w B1 L1 s1 T1 v1 h3 B2 L2 s2 T2 v2 h4 := ⟨k.la.up ha, k.lb.up hh, k.d1, k.d2⟩
theorem sum_at (z : Nat → Nat) : ∀ n i, i < n → z i ≤ sumTo z n
 | n + 1, i, h => by
  show z i ≤ sumTo z n + z n
  by_cases e : i = n
  ·subst e; omega
  ·have := sum_at z n i (by omega); omega
end Go.Proofs.YtomilckcgmhfcaaDoor
/- A state is right just where the reference says so. (Printed by a program of mine.) -/
namespace Go.Proofs.YtomilckcgmhfcaaDoor
set_option maxRecDepth 40000
open Go.RowKit
set_option maxRecDepth 20000 in
set_option maxHeartbeats 20000000 in
theorem right_iff (s : StV) (w : World) (hS : StOk w w.heap.size s) : Calls Tryd.prog 7 #[.agg (arr 1957 s.F)] w (RightQ s w) := by
  have HS := Lib.hid hS
  obtain ⟨F, aV, nV, cV, V, aB, nB, cB, Bal, aP, nP, cP, Prv, aC, nC, cC, Cur, aS, nS, cS, Sco, aH, nH, cH, His, aE, nE, cE, Vot⟩ := s
  have hle : nV ≤ 9223372036854775807 := by have := hS.lV; unfold maxLen at this; simp only at this; omega
  have E33 := Lib.hid (hS.sc.u64 33 (by kernel_rfl)).1
  have E720 := Lib.hid (hS.sc.u64 720 (by kernel_rfl)).1
  have E43 := Lib.hid (hS.sc.u64 43 (by kernel_rfl)).1
  have E993 := Lib.hid (hS.sc.u64 993 (by kernel_rfl)).1
  have E1026 := Lib.hid (hS.sc.u64 1026 (by kernel_rfl)).1
  have E1059 := Lib.hid (hS.sc.u64 1059 (by kernel_rfl)).1
  simp only at E33 E720 E43 E993 E1026 E1059
  have HR : Hid (nV ≤ 65536 → nB = nV → nP = nV → nC = nV → nS = nV → nH ≤ 1024 → nE ≤ 8 → nat (F 33) < 1099511627776 → nat (F 720) < 1099511627776 → nat (F 43) ≤ nat (F 33) → nat (F 993) ≤ nat (F 33) / 4 → nat (F 1026) ≤ nat (F 33) / 4 → nat (F 1059) ≤ nat (F 33) / 4 →
      (∀ i, i < nV → valOk V Sco i) → sumTo (fun i => nat (Bal i)) nB ≤ 144115188075855872 → sumTo (fun i => nat (F (979 + i))) 8 ≤ 144115188075855872 → RightF ⟨F, aV, nV, cV, V, aB, nB, cB, Bal, aP, nP, cP, Prv, aC, nC, cC, Cur, aS, nS, cS, Sco, aH, nH, cH, His, aE, nE, cE, Vot⟩) :=
    Lib.hid (fun a1 a2 a3 a4 a5 a6 a7 a8 a9 a10 a11 a12 a13 a14 a15 a16 => ⟨a1, a2, a3, a4, a5, a6, a7, a8, a9, a10, a11, a12, a13, a14, a15, a16⟩)
  have HI : Hid (RightF ⟨F, aV, nV, cV, V, aB, nB, cB, Bal, aP, nP, cP, Prv, aC, nC, cC, Cur, aS, nS, cS, Sco, aH, nH, cH, His, aE, nE, cE, Vot⟩ → (nV ≤ 65536 ∧ nV = nB ∧ nV = nP ∧ nV = nC ∧ nV = nS) ∧ (nH ≤ 1024 ∧ nE ≤ 8 ∧ nat (F 33) < 1099511627776 ∧ nat (F 720) < 1099511627776 ∧ nat (F 43) ≤ nat (F 33)) ∧ (nat (F 993) ≤ nat (F 33) / 4 ∧ nat (F 1026) ≤ nat (F 33) / 4 ∧ nat (F 1059) ≤ nat (F 33) / 4) ∧
      (∀ i, i < nV → valOk V Sco i) ∧ sumTo (fun i => nat (Bal i)) nB ≤ 144115188075855872 ∧ sumTo (fun i => nat (F (979 + i))) 8 ≤ 144115188075855872) :=
    Lib.hid (fun h => ⟨⟨h.n, h.nB.symm, h.nP.symm, h.nC.symm, h.nS.symm⟩, ⟨h.nH, h.nE, h.slot, h.dep, h.head⟩, ⟨h.oldJ, h.just, h.fin⟩, h.val, h.bal, h.sla⟩)
  have RB0 := Lib.hid (show Rd w w.heap.size aB nB (fun i => .int .u64 ((nat (Bal i) : Nat) : Int)) from hS.rB.congr (fun i hi => (hS.scB i hi).1))
  have BB0 := Lib.hid (show ∀ i, i < nB → nat (Bal i) < 18446744073709551616 from fun i hi => (hS.scB i hi).2)
  have SL0 := Lib.hid (show ∀ i, i < 8 → F (979 + i) = .int .u64 ((nat (F (979 + i)) : Nat) : Int) ∧ nat (F (979 + i)) < 18446744073709551616 from F979 hS.sc)
  clear hS
  generalize nat (F 33) = v33 at *
  generalize nat (F 720) = v720 at *
  generalize nat (F 43) = v43 at *
  generalize nat (F 993) = v993 at *
  generalize nat (F 1026) = v1026 at *
  generalize nat (F 1059) = v1059 at *
  have HC : Hid (∀ (w1 : World) (b : Nat), w1.rowIs b 49 1957 F → w1.cell? ⟨b, 653, none⟩ = some (.slice aH nH cH) ∧ w1.cell? ⟨b, 719, none⟩ = some (.slice aE nE cE) ∧ w1.cell? ⟨b, 721, none⟩ = some (.slice aV nV cV) ∧ w1.cell? ⟨b, 722, none⟩ = some (.slice aB nB cB) ∧ w1.cell? ⟨b, 987, none⟩ = some (.slice aP nP cP) ∧ w1.cell? ⟨b, 988, none⟩ = some (.slice aC nC cC) ∧ w1.cell? ⟨b, 1092, none⟩ = some (.slice aS nS cS) ∧ w1.cell? ⟨b, 33, none⟩ = some (.int .u64 (v33 : Int)) ∧ w1.cell? ⟨b, 720, none⟩ = some (.int .u64 (v720 : Int)) ∧ w1.cell? ⟨b, 43, none⟩ = some (.int .u64 (v43 : Int)) ∧ w1.cell? ⟨b, 993, none⟩ = some (.int .u64 (v993 : Int)) ∧ w1.cell? ⟨b, 1026, none⟩ = some (.int .u64 (v1026 : Int)) ∧ w1.cell? ⟨b, 1059, none⟩ = some (.int .u64 (v1059 : Int))) :=
    Lib.hid (fun w1 b hr => ⟨(hr.cell (by omega)).trans (congrArg some HS.out.f7), (hr.cell (by omega)).trans (congrArg some HS.out.f9), (hr.cell (by omega)).trans (congrArg some HS.out.f11), (hr.cell (by omega)).trans (congrArg some HS.out.f12), (hr.cell (by omega)).trans (congrArg some HS.out.f15), (hr.cell (by omega)).trans (congrArg some HS.out.f16), (hr.cell (by omega)).trans (congrArg some HS.out.f21), (hr.cell (by omega)).trans (congrArg some E33.out), (hr.cell (by omega)).trans (congrArg some E720.out), (hr.cell (by omega)).trans (congrArg some E43.out), (hr.cell (by omega)).trans (congrArg some E993.out), (hr.cell (by omega)).trans (congrArg some E1026.out), (hr.cell (by omega)).trans (congrArg some E1059.out)⟩)
  clear E33 E720 E43 E993 E1026 E1059
  obtain ⟨now, hnow⟩ : ∃ now, now = v33 / 4 := ⟨_, rfl⟩
  have HD := Lib.hid (show (v33 : Int) / 4 = (now : Int) by omega)
  have HNow := Lib.hid hnow
  clear hnow
  go_enter Tryd.func7, Tryd.ntmps7
  obtain ⟨FP, hFP⟩ : ∃ FP : Prop, FP = (nV ≤ 65536 ∧ nV = nB ∧ nV = nP ∧ nV = nC ∧ nV = nS) := ⟨_, rfl⟩
  have HFP := Lib.hid hFP
  clear hFP
  go_upto_region 2 with (refine wpList_box rfl _ _ rfl 1957 F rfl ?_; intro w1 hr1 hb1; have HR1 := Lib.hid hr1; have HB1 := Lib.hid hb1; obtain ⟨h653, h719, h721, h722, h987, h988, h1092, h33, h720, h43, h993, h1026, h1059⟩ := HC.out _ _ hr1; clear hr1 hb1)
  go_cut [39] from 10 to 39 (fun v wx => CutB v FP ∧ w1 = wx)
  case first =>
    by_cases a1 : nV ≤ 65536
    · have da1 : decide ((65536 : Int) < (nV : Int)) = false := decide_eq_false (by omega)
      have A1 := Lib.hid a1
      clear a1
      by_cases a2 : nB = nV
      · obtain rfl : nV = nB := a2.symm
        by_cases a3 : nP = nV
        · obtain rfl : nV = nP := a3.symm
          by_cases a4 : nC = nV
          · obtain rfl : nV = nC := a4.symm
            by_cases a5 : nS = nV
            · obtain rfl : nV = nS := a5.symm
              go_wp2_with fail
              go_meet
              case rel => exact ⟨⟨false, rfl, ⟨fun _ => by rw [HFP.out]; exact ⟨A1.out, by trivial, by trivial, by trivial, by trivial⟩, fun _ => rfl⟩⟩, by first | trivial | rfl⟩
            · have HN := Lib.hid a5
              have da5 : ((nV : Int) != (nS : Int)) = true := by rw [bne_iff_ne]; omega
              clear a5
              go_wp2_with fail
              go_meet
              case rel => exact ⟨⟨true, rfl, ⟨(fun h => by cases h), fun hp => by rw [HFP.out] at hp; exact absurd (hp.2.2.2.2.symm) HN.out⟩⟩, by first | trivial | rfl⟩
          · have HN := Lib.hid a4
            have da4 : ((nV : Int) != (nC : Int)) = true := by rw [bne_iff_ne]; omega
            clear a4
            go_wp2_with fail
            go_meet
            case rel => exact ⟨⟨true, rfl, ⟨(fun h => by cases h), fun hp => by rw [HFP.out] at hp; exact absurd (hp.2.2.2.1.symm) HN.out⟩⟩, by first | trivial | rfl⟩
        · have HN := Lib.hid a3
          have da3 : ((nV : Int) != (nP : Int)) = true := by rw [bne_iff_ne]; omega
          clear a3
          go_wp2_with fail
          go_meet
          case rel => exact ⟨⟨true, rfl, ⟨(fun h => by cases h), fun hp => by rw [HFP.out] at hp; exact absurd (hp.2.2.1.symm) HN.out⟩⟩, by first | trivial | rfl⟩
      · have HN := Lib.hid a2
        have da2 : ((nV : Int) != (nB : Int)) = true := by rw [bne_iff_ne]; omega
        clear a2
        go_wp2_with fail
        go_meet
        case rel => exact ⟨⟨true, rfl, ⟨(fun h => by cases h), fun hp => by rw [HFP.out] at hp; exact absurd (hp.2.1.symm) HN.out⟩⟩, by first | trivial | rfl⟩
    · have HN := Lib.hid a1
      have da1 : decide ((65536 : Int) < (nV : Int)) = true := decide_eq_true (by omega)
      clear a1
      go_wp2_with fail
      go_meet
      case rel => exact ⟨⟨true, rfl, ⟨(fun h => by cases h), fun hp => by rw [HFP.out] at hp; exact absurd (hp.1) HN.out⟩⟩, by first | trivial | rfl⟩
  case rest =>
    obtain ⟨⟨b, rfl, hF⟩, rfl⟩ := hcut
    rw [HFP.out] at hF
    have HFx := Lib.hid hF
    clear HFP FP hF
    cases b with
    | true =>
      go_wp2_with fail
      go_ret
      exact ⟨false, rfl, ⟨(fun h => by cases h), fun hr => absurd (HFx.out.2 ((HI.out hr).1)) (by simp)⟩, HB1.out⟩
    | false =>
      have hF := HFx.out.1
      clear HFx
      obtain ⟨hn, rfl, rfl, rfl, rfl⟩ := hF rfl
      clear hF
      obtain ⟨FP, hFP⟩ : ∃ FP : Prop, FP = (nH ≤ 1024 ∧ nE ≤ 8 ∧ v33 < 1099511627776 ∧ v720 < 1099511627776 ∧ v43 ≤ v33) := ⟨_, rfl⟩
      have HFP := Lib.hid hFP
      clear hFP
      go_upto_region 4 with fail
      go_cut [67] from 40 to 67 (fun v wx => CutB v FP ∧ w1 = wx)
      case first =>
        by_cases b1 : nH ≤ 1024
        · have db1 : decide ((1024 : Int) < (nH : Int)) = false := decide_eq_false (by omega)
          have B1 := Lib.hid b1
          clear b1
          by_cases b2 : nE ≤ 8
          · have db2 : decide ((8 : Int) < (nE : Int)) = false := decide_eq_false (by omega)
            have B2 := Lib.hid b2
            clear b2
            by_cases b3 : v33 < 1099511627776
            · have db3 : decide ((1099511627776 : Int) ≤ (v33 : Int)) = false := decide_eq_false (by omega)
              have B3 := Lib.hid b3
              clear b3
              by_cases b4 : v720 < 1099511627776
              · have db4 : decide ((1099511627776 : Int) ≤ (v720 : Int)) = false := decide_eq_false (by omega)
                have B4 := Lib.hid b4
                clear b4
                by_cases b5 : v43 ≤ v33
                · have b5i : ¬ (v33 : Int) < (v43 : Int) := by omega
                  have B5 := Lib.hid b5
                  clear b5
                  go_wp2_with fail
                  go_meet
                  case rel => exact ⟨⟨false, rfl, ⟨fun _ => by rw [HFP.out]; exact ⟨B1.out, B2.out, B3.out, B4.out, B5.out⟩, fun _ => rfl⟩⟩, by first | trivial | rfl⟩
                · have HN := Lib.hid b5
                  have b5i : (v33 : Int) < (v43 : Int) := by omega
                  clear b5
                  go_wp2_with fail
                  go_meet
                  case rel => exact ⟨⟨true, rfl, ⟨(fun h => by cases h), fun hp => by rw [HFP.out] at hp; exact absurd (hp.2.2.2.2) HN.out⟩⟩, by first | trivial | rfl⟩
              · have HN := Lib.hid b4
                have db4 : decide ((1099511627776 : Int) ≤ (v720 : Int)) = true := decide_eq_true (by omega)
                clear b4
                go_wp2_with fail
                go_meet
                case rel => exact ⟨⟨true, rfl, ⟨(fun h => by cases h), fun hp => by rw [HFP.out] at hp; exact absurd (hp.2.2.2.1) HN.out⟩⟩, by first | trivial | rfl⟩
            · have HN := Lib.hid b3
              have db3 : decide ((1099511627776 : Int) ≤ (v33 : Int)) = true := decide_eq_true (by omega)
              clear b3
              go_wp2_with fail
              go_meet
              case rel => exact ⟨⟨true, rfl, ⟨(fun h => by cases h), fun hp => by rw [HFP.out] at hp; exact absurd (hp.2.2.1) HN.out⟩⟩, by first | trivial | rfl⟩
          · have HN := Lib.hid b2
            have db2 : decide ((8 : Int) < (nE : Int)) = true := decide_eq_true (by omega)
            clear b2
            go_wp2_with fail
            go_meet
            case rel => exact ⟨⟨true, rfl, ⟨(fun h => by cases h), fun hp => by rw [HFP.out] at hp; exact absurd (hp.2.1) HN.out⟩⟩, by first | trivial | rfl⟩
        · have HN := Lib.hid b1
          have db1 : decide ((1024 : Int) < (nH : Int)) = true := decide_eq_true (by omega)
          clear b1
          go_wp2_with fail
          go_meet
          case rel => exact ⟨⟨true, rfl, ⟨(fun h => by cases h), fun hp => by rw [HFP.out] at hp; exact absurd (hp.1) HN.out⟩⟩, by first | trivial | rfl⟩
      case rest =>
        obtain ⟨⟨b, rfl, hF⟩, rfl⟩ := hcut
        rw [HFP.out] at hF
        have HFx := Lib.hid hF
        clear HFP FP hF
        cases b with
        | true =>
          go_wp2_with fail
          go_ret
          exact ⟨false, rfl, ⟨(fun h => by cases h), fun hr => absurd (HFx.out.2 ((HI.out hr).2.1)) (by simp)⟩, HB1.out⟩
        | false =>
          have hF := HFx.out.1
          clear HFx
          have HF2 := Lib.hid (hF rfl)
          clear hF
          have hs40 := HF2.out.2.2.1
          obtain ⟨FP, hFP⟩ : ∃ FP : Prop, FP = (v993 ≤ now ∧ v1026 ≤ now ∧ v1059 ≤ now) := ⟨_, rfl⟩
          have HFP := Lib.hid hFP
          clear hFP
          go_upto_region 7 with fail
          rw [HD.out]
          clear HD
          go_cut [89] from 71 to 89 (fun v wx => CutB v FP ∧ w1 = wx)
          case first =>
            by_cases c1 : v993 ≤ now
            · have c1i : ¬ (now : Int) < (v993 : Int) := by omega
              have C1 := Lib.hid c1
              clear c1
              by_cases c2 : v1026 ≤ now
              · have c2i : ¬ (now : Int) < (v1026 : Int) := by omega
                have C2 := Lib.hid c2
                clear c2
                by_cases c3 : v1059 ≤ now
                · have c3i : ¬ (now : Int) < (v1059 : Int) := by omega
                  have C3 := Lib.hid c3
                  clear c3
                  go_wp2_with fail
                  go_meet
                  case rel => exact ⟨⟨false, rfl, ⟨fun _ => by rw [HFP.out]; exact ⟨C1.out, C2.out, C3.out⟩, fun _ => rfl⟩⟩, by first | trivial | rfl⟩
                · have HN := Lib.hid c3
                  have c3i : (now : Int) < (v1059 : Int) := by omega
                  clear c3
                  go_wp2_with fail
                  go_meet
                  case rel => exact ⟨⟨true, rfl, ⟨(fun h => by cases h), fun hp => by rw [HFP.out] at hp; exact absurd (hp.2.2) HN.out⟩⟩, by first | trivial | rfl⟩
              · have HN := Lib.hid c2
                have c2i : (now : Int) < (v1026 : Int) := by omega
                clear c2
                go_wp2_with fail
                go_meet
                case rel => exact ⟨⟨true, rfl, ⟨(fun h => by cases h), fun hp => by rw [HFP.out] at hp; exact absurd (hp.2.1) HN.out⟩⟩, by first | trivial | rfl⟩
            · have HN := Lib.hid c1
              have c1i : (now : Int) < (v993 : Int) := by omega
              clear c1
              go_wp2_with fail
              go_meet
              case rel => exact ⟨⟨true, rfl, ⟨(fun h => by cases h), fun hp => by rw [HFP.out] at hp; exact absurd (hp.1) HN.out⟩⟩, by first | trivial | rfl⟩
          case rest =>
            obtain ⟨⟨b, rfl, hF⟩, rfl⟩ := hcut
            rw [HFP.out] at hF
            have HFx := Lib.hid hF
            clear HFP FP hF
            cases b with
            | true =>
              go_wp2_with fail
              go_ret
              exact ⟨false, rfl, ⟨(fun h => by cases h), fun hr => absurd (HFx.out.2 (by rw [HNow.out]; exact (HI.out hr).2.2.1)) (by simp)⟩, HB1.out⟩
            | false =>
              have hF := HFx.out.1
              clear HFx
              have HF3 := Lib.hid (hF rfl)
              clear hF
              go_wp2_with fail
              have hlt := HR1.out.lt
              go_loopw [5] (fun i wr => ∃ k : Nat, i = .int .i64 (k : Int) ∧ k ≤ nV ∧ (∀ j, j < k → valOk V Sco j) ∧ Below w1.heap.size w1 wr) (fun i _ => nV - (intOf i).toNat)
              case atStart => exact ⟨0, rfl, Nat.zero_le _, fun j hj => absurd hj (Nat.not_lt_zero _), Below.refl _ _⟩
              case round =>
                obtain ⟨k, rfl, hk, hv, hb⟩ := hrel
                have HV2 := Lib.hid hv
                have HB := Lib.hid hb
                have hsz := hb.size
                have hltr : w.heap.size < wr.heap.size := by omega
                have h7 : wr.cell? ⟨w.heap.size, 721, none⟩ = some (.slice aV nV cV) := (hb.cell hlt).trans h721
                have h7s : wr.cell? ⟨w.heap.size, 1092, none⟩ = some (.slice aS nV cS) := (hb.cell hlt).trans h1092
                have H722 := Lib.hid ((hb.cell (p := ⟨w.heap.size, 722, none⟩) hlt).trans h722)
                clear hv hb h721 h1092 h722 h653 h719 h987 h988 h33 h720 h43 h993 h1026 h1059
                by_cases h1 : k < nV
                · obtain ⟨ad, rfl, hb2, hc1, -⟩ := ((HS.out.vok.below HB1.out).more HB1.out.size).below HB.out |>.at_ h1
                  have HC1 := Lib.hid hc1
                  have HSC := Lib.hid (HS.out.scV k h1)
                  obtain ⟨ad2, rfl, hbs, hcs⟩ := (((HS.out.rS.below HB1.out).more HB1.out.size).below HB.out).at_ h1
                  have hbs3 : ad2.block < wr.heap.size := by omega
                  rw [(HS.out.scS k h1).1] at hcs
                  have X80 := Lib.hid (HSC.out.u64 80 (by kernel_rfl)).1
                  have X82 := Lib.hid (HSC.out.u64 82 (by kernel_rfl)).1
                  have X83 := Lib.hid (HSC.out.u64 83 (by kernel_rfl)).1
                  have X84 := Lib.hid (HSC.out.u64 84 (by kernel_rfl)).1
                  have X85 := Lib.hid (HSC.out.u64 85 (by kernel_rfl)).1
                  have HVO : Hid (nat (V (k * 86 + 80)) ≤ 32000000000 ∧ nat (V (k * 86 + 80)) % 1000000000 = 0 ∧ epB (nat (V (k * 86 + 82))) = true ∧ epB (nat (V (k * 86 + 83))) = true ∧ epB (nat (V (k * 86 + 84))) = true ∧ epB (nat (V (k * 86 + 85))) = true ∧ nat (Sco k) ≤ 1099511627776 → valOk V Sco k) := Lib.hid id
                  have HVI : Hid (valOk V Sco k → nat (V (k * 86 + 80)) ≤ 32000000000 ∧ nat (V (k * 86 + 80)) % 1000000000 = 0 ∧ epB (nat (V (k * 86 + 82))) = true ∧ epB (nat (V (k * 86 + 83))) = true ∧ epB (nat (V (k * 86 + 84))) = true ∧ epB (nat (V (k * 86 + 85))) = true ∧ nat (Sco k) ≤ 1099511627776) := Lib.hid id
                  clear hc1
                  simp only at X80 X82 X83 X84 X85 hcs
                  generalize nat (V (k * 86 + 80)) = x80 at *
                  generalize nat (V (k * 86 + 82)) = x82 at *
                  generalize nat (V (k * 86 + 83)) = x83 at *
                  generalize nat (V (k * 86 + 84)) = x84 at *
                  generalize nat (V (k * 86 + 85)) = x85 at *
                  generalize nat (Sco k) = xs at *
                  obtain ⟨FP, hFP⟩ : ∃ FP : Prop, FP = (x80 ≤ 32000000000 ∧ x80 % 1000000000 = 0 ∧ epB x82 = true ∧ epB x83 = true ∧ epB x84 = true ∧ epB x85 = true ∧ xs ≤ 1099511627776) := ⟨_, rfl⟩
                  have HFP := Lib.hid hFP
                  clear hFP
                  go_upto_region 13 with (first
                    | (refine wpList_load_rd rfl 66 _ rfl 86 _ Tryd.underlying66 rfl (by kernel_rfl) (ad.add (k * 86)) rfl (fun q => V (k * 86 + q)) HC1.out ?_)
                    | (refine wpList_new rfl rfl 66 66 6 (.tmp 99) rfl rfl rfl 86 (zeroOf Tryd.prog 66) (by kernel_rfl) (by kernel_rfl) (arr 86 fun q => V (k * 86 + q)) rfl rfl (size_arr _ _) (by kernel_rfl) (HSC.out.one (by kernel_rfl)) (fun q => V (k * 86 + q)) (fun q hq => arr_at _ _ _ hq) ?_; intro w2 hr2 hb2; have HB2 := Lib.hid hb2; have h80 := (hr2.cell (i := 80) (by omega)).trans (congrArg some X80.out); have h82 := (hr2.cell (i := 82) (by omega)).trans (congrArg some X82.out); have h83 := (hr2.cell (i := 83) (by omega)).trans (congrArg some X83.out); have h84 := (hr2.cell (i := 84) (by omega)).trans (congrArg some X84.out); have h85 := (hr2.cell (i := 85) (by omega)).trans (congrArg some X85.out); have h7b := (hb2.cell (p := ⟨w.heap.size, 1092, none⟩) hltr).trans h7s; have hcs2 := (hb2.cell (p := ad2.add k) (by rw [block_of_add]; exact hbs3)).trans hcs; clear hr2 hb2 h7s hcs; simp only [pcX]))
                  go_cut [140] from 100 to 140 (fun v wx => CutB v FP ∧ w2 = wx)
                  case first =>
                    by_cases d1 : x80 ≤ 32000000000
                    · have dd1 : decide ((32000000000 : Int) < (x80 : Int)) = false := decide_eq_false (by omega)
                      have D1 := Lib.hid d1
                      clear d1
                      by_cases d2 : x80 % 1000000000 = 0
                      · have dq : (((x80 : Int) % 1000000000) != 0) = false := by rw [bne_eq_false_iff_eq]; omega
                        have D2 := Lib.hid d2
                        clear d2
                        by_cases d3 : epB x82 = true
                        · have D3 := Lib.hid d3
                          by_cases d4 : epB x83 = true
                          · have D4 := Lib.hid d4
                            by_cases d5 : epB x84 = true
                            · have D5 := Lib.hid d5
                              by_cases d6 : epB x85 = true
                              · have D6 := Lib.hid d6
                                by_cases d7 : xs ≤ 1099511627776
                                · have dd7 : decide ((1099511627776 : Int) < (xs : Int)) = false := decide_eq_false (by omega)
                                  have D7 := Lib.hid d7
                                  clear d7
                                  go_wp2_with (go_at_call 19; refine (epoch_any _ _).mono ?_; rintro r w3 ⟨rfl, hw3⟩; obtain rfl : w2 = w3 := hw3.symm)
                                  go_meet
                                  case rel => exact ⟨⟨false, rfl, ⟨fun _ => by rw [HFP.out]; exact ⟨D1.out, D2.out, D3.out, D4.out, D5.out, D6.out, D7.out⟩, fun _ => rfl⟩⟩, by first | trivial | rfl⟩
                                · have HN := Lib.hid d7
                                  have dd7 : decide ((1099511627776 : Int) < (xs : Int)) = true := decide_eq_true (by omega)
                                  clear d7
                                  go_wp2_with (go_at_call 19; refine (epoch_any _ _).mono ?_; rintro r w3 ⟨rfl, hw3⟩; obtain rfl : w2 = w3 := hw3.symm)
                                  go_meet
                                  case rel => exact ⟨⟨true, rfl, ⟨(fun h => by cases h), fun hp => by rw [HFP.out] at hp; exact absurd (hp.2.2.2.2.2.2) HN.out⟩⟩, by first | trivial | rfl⟩
                              · have HN := Lib.hid d6
                                have d6f : epB x85 = false := by simpa using d6
                                clear d6
                                go_wp2_with (go_at_call 19; refine (epoch_any _ _).mono ?_; rintro r w3 ⟨rfl, hw3⟩; obtain rfl : w2 = w3 := hw3.symm)
                                go_meet
                                case rel => exact ⟨⟨true, rfl, ⟨(fun h => by cases h), fun hp => by rw [HFP.out] at hp; exact absurd (hp.2.2.2.2.2.1) HN.out⟩⟩, by first | trivial | rfl⟩
                            · have HN := Lib.hid d5
                              have d5f : epB x84 = false := by simpa using d5
                              clear d5
                              go_wp2_with (go_at_call 19; refine (epoch_any _ _).mono ?_; rintro r w3 ⟨rfl, hw3⟩; obtain rfl : w2 = w3 := hw3.symm)
                              go_meet
                              case rel => exact ⟨⟨true, rfl, ⟨(fun h => by cases h), fun hp => by rw [HFP.out] at hp; exact absurd (hp.2.2.2.2.1) HN.out⟩⟩, by first | trivial | rfl⟩
                          · have HN := Lib.hid d4
                            have d4f : epB x83 = false := by simpa using d4
                            clear d4
                            go_wp2_with (go_at_call 19; refine (epoch_any _ _).mono ?_; rintro r w3 ⟨rfl, hw3⟩; obtain rfl : w2 = w3 := hw3.symm)
                            go_meet
                            case rel => exact ⟨⟨true, rfl, ⟨(fun h => by cases h), fun hp => by rw [HFP.out] at hp; exact absurd (hp.2.2.2.1) HN.out⟩⟩, by first | trivial | rfl⟩
                        · have HN := Lib.hid d3
                          have d3f : epB x82 = false := by simpa using d3
                          clear d3
                          go_wp2_with (go_at_call 19; refine (epoch_any _ _).mono ?_; rintro r w3 ⟨rfl, hw3⟩; obtain rfl : w2 = w3 := hw3.symm)
                          go_meet
                          case rel => exact ⟨⟨true, rfl, ⟨(fun h => by cases h), fun hp => by rw [HFP.out] at hp; exact absurd (hp.2.2.1) HN.out⟩⟩, by first | trivial | rfl⟩
                      · have HN := Lib.hid d2
                        have dq : (((x80 : Int) % 1000000000) != 0) = true := by rw [bne_iff_ne]; omega
                        clear d2
                        go_wp2_with (go_at_call 19; refine (epoch_any _ _).mono ?_; rintro r w3 ⟨rfl, hw3⟩; obtain rfl : w2 = w3 := hw3.symm)
                        go_meet
                        case rel => exact ⟨⟨true, rfl, ⟨(fun h => by cases h), fun hp => by rw [HFP.out] at hp; exact absurd (hp.2.1) HN.out⟩⟩, by first | trivial | rfl⟩
                    · have HN := Lib.hid d1
                      have dd1 : decide ((32000000000 : Int) < (x80 : Int)) = true := decide_eq_true (by omega)
                      clear d1
                      go_wp2_with (go_at_call 19; refine (epoch_any _ _).mono ?_; rintro r w3 ⟨rfl, hw3⟩; obtain rfl : w2 = w3 := hw3.symm)
                      go_meet
                      case rel => exact ⟨⟨true, rfl, ⟨(fun h => by cases h), fun hp => by rw [HFP.out] at hp; exact absurd (hp.1) HN.out⟩⟩, by first | trivial | rfl⟩
                  case rest =>
                    obtain ⟨⟨b, rfl, hF⟩, rfl⟩ := hcut
                    rw [HFP.out] at hF
                    have HFx := Lib.hid hF
                    clear HFP FP hF
                    cases b with
                    | true =>
                      go_wp2_with fail
                      go_ret
                      exact ⟨false, rfl, ⟨(fun h => by cases h), fun hr => absurd (HFx.out.2 (HVI.out ((HI.out hr).2.2.2.1 k h1))) (by simp)⟩, HB1.out.trans ((HB.out.trans (HB2.out.mono hsz)).mono HB1.out.size)⟩
                    | false =>
                      have hF := HFx.out.1
                      clear HFx
                      have HF4 := Lib.hid (hF rfl)
                      clear hF
                      go_wp2_with fail
                      go_roundw
                      case rel => exact ⟨k + 1, by go_num, by omega, fun j hj => by
                        by_cases e : j = k
                        · subst e; exact HVO.out HF4.out
                        · exact HV2.out j (by omega), HB.out.trans (HB2.out.mono hsz)⟩
                      case measure => simp [intOf]; omega
                · obtain rfl : nV = k := by omega
                  have RBa := Lib.hid (((RB0.out.below HB1.out).more HB1.out.size).below HB.out)
                  have RSl := Lib.hid (Rd.of_part (o := 979) (n := 8) (f := fun i => .int .u64 ((nat (F (979 + i)) : Nat) : Int)) (row_below HR1.out HB.out hlt) (by omega) (fun i hi => (SL0.out i hi).1))
                  have h722 := H722.out
                  have CUT := Lib.hid (fun wz => cut_arr (P := Tryd.prog) (w := wz) Tryd.underlying38 1 (by kernel_rfl) (g := w.heap.size) (o := 979) none none 0 8 (.inl ⟨rfl, rfl⟩) (.inl ⟨rfl, rfl⟩) (by omega) (by omega) (by omega) (off := 979) (len := 8) (cap := 8) (by omega) (by omega) (by omega))
                  have HF := HR.out hn (by trivial) (by trivial) (by trivial) (by trivial) HF2.out.1 HF2.out.2.1 hs40 HF2.out.2.2.2.1 HF2.out.2.2.2.2 (HNow.out ▸ HF3.out.1) (HNow.out ▸ HF3.out.2.1) (HNow.out ▸ HF3.out.2.2) HV2.out
                  have HFI := Lib.hid HF
                  clear HF
                  have HSA := Lib.hid (sum10_any aB nV cB (fun i => nat (Bal i)) wr w1.heap.size RBa.out BB0.out (Nat.le_trans hn (by unfold maxLen; omega)))
                  have HSZ := Lib.hid (sum10_any (some ⟨w.heap.size, 979, none⟩) 8 8 (fun i => nat (F (979 + i))) wr wr.heap.size RSl.out (fun i hi => (SL0.out i hi).2) (by unfold maxLen; omega))
                  have HFK := Lib.hid (fun hr => (⟨decide_eq_true (HI.out hr).2.2.2.2.1, decide_eq_true (HI.out hr).2.2.2.2.2⟩ : sumB (fun i => nat (Bal i)) nV = true ∧ sumB (fun i => nat (F (979 + i))) 8 = true))
                  have HFJ : Hid (sumB (fun i => nat (Bal i)) nV = true → sumB (fun i => nat (F (979 + i))) 8 = true → _) := Lib.hid (fun h1 h2 => HFI.out (of_decide_eq_true h1) (of_decide_eq_true h2))
                  generalize sumB (fun i => nat (Bal i)) nV = b1 at *
                  generalize sumB (fun i => nat (F (979 + i))) 8 = b2 at *
                  clear HR HC HI HF2 HF3 HV2 HNow RSl RBa SL0 BB0 RB0 HS HFI
                  have tok := Tok.mk 1
                  cases b1 with
                  | false =>
                    go_wp2_with (go_at_call 20; refine HSA.out.mono ?_; rintro r w2 ⟨rfl, hw2⟩; obtain rfl : wr = w2 := hw2.symm)
                    go_ret
                    exact ⟨false, rfl, ⟨(fun h => by cases h), fun hr => absurd (HFK.out hr).1 (by simp)⟩, HB1.out.trans (HB.out.mono HB1.out.size)⟩
                  | true =>
                    go_wp2_with (first
                      | (go_at_call 20; have hx : Tok 1 := (by assumption); clear hx tok; refine HSA.out.mono ?_; rintro r w2 ⟨rfl, hw2⟩; obtain rfl : wr = w2 := hw2.symm; have tok2 := Tok.mk 2)
                      | (refine wpList_sliceG rfl rfl rfl 38 (.tmp 145) none none rfl rfl CUT.out rfl rfl ?_)
                      | (go_at_call 20; have hx : Tok 2 := (by assumption); clear hx; refine HSZ.out.mono ?_; rintro r w2 ⟨rfl, hw2⟩; obtain rfl : wr = w2 := hw2.symm))
                    go_ret
                    exact ⟨_, rfl, ⟨fun h => HFJ.out (by trivial) h, fun hr => (HFK.out hr).2⟩, HB1.out.trans (HB.out.mono HB1.out.size)⟩
end Go.Proofs.YtomilckcgmhfcaaDoor
