/- Lemmas that the proof stands on. -/
import Derived.Test.YtomilckcgmhfcaaDoorGLit29
namespace Go.Proofs.YtomilckcgmhfcaaDoor
set_option maxRecDepth 40000
set_option maxHeartbeats 64000000
open Go.RowKit Go.ChangeShapes Go.WideShapes Go.ChangeAt
def zsD : List Int := Go.Lib.deBruijn64tab.map fun n : Nat => (n : Int)
theorem zw0 : ∀ i, i < 64 → zsD.getD i 0 = ((Go.Lib.deBruijn64tab.getD i 0 : Nat) : Int) := by decide +kernel
theorem zm8 {W : World} {rest : List (String × DataW Unit)} {ps : List MemPlace} (h : DataW.LaidVars Tryd.prog W (("math/bits.deBruijn64tab", Rows.laid_math_bits_deBruijn64tab) :: rest) ps) : ∀ i, i < 64 → W.cell? ⟨2, i, none⟩ = some (.int .u8 ((Go.Lib.deBruijn64tab.getD i 0 : Nat) : Int)) := fun i hi => by
 have h' : DataW.LaidVars Tryd.prog W (("math/bits.deBruijn64tab", Lib.tabData .u8 zsD) :: rest) ps := h
 have := zj7 (P := Tryd.prog) (g := 2) (t := 111) (e := 5) (n := 64) (by kernel_rfl) (by kernel_rfl) Tryd.underlying111 Ty5 (by kernel_rfl) (by kernel_rfl) h' i hi
 rw [this, zw0 i hi]
theorem zw1 {w : World} (h : ∀ i, i < 64 → w.cell? ⟨2, i, none⟩ = some (.int .u8 ((Go.Lib.deBruijn64tab.getD i 0 : Nat) : Int))) : TzPkg w := ⟨h, by
 have h0 := h 0 (by omega)
 rcases Nat.lt_or_ge 2 w.heap.size with h1 | h1
 ·exact h1
 ·exfalso
  have : w.heap[2]? = none := Array.getElem?_eq_none h1
  simp [World.cell?, this] at h0⟩
def csD : Array Value := (zsD.map (Value.int .u8)).toArray
end Go.Proofs.YtomilckcgmhfcaaDoor
namespace Go.Proofs.YtomilckcgmhfcaaDoor
set_option maxRecDepth 40000
set_option maxHeartbeats 64000000
open Go.RowKit
def elJ (s t : StV) (j p : Nat) : Prop := if j = 0 then ∀ q, q < 86 → s.V (p * 86 + q) = t.V (p * 86 + q) else if j = 1 then s.Bal p = t.Bal p else if j = 2 then s.Prv p = t.Prv p else if j = 3 then s.Cur p = t.Cur p else s.Sco p = t.Sco p
structure PutJ (s t : StV) (i : Nat) (m : Nat → Nat) (x : Nat → Nat → Nat) : Prop where
 hm : ∀ j, j < 5 → m j = lvC j (max s.nV i)
 hx : ∀ j, j < 5 → ∀ k, k < m j → (∀ q, q < 32 → x j (k * 32 + q) = lvX t j (k * 32 + q)) ∨ ((∀ q, q < 32 → x j (k * 32 + q) = lvX s j (k * 32 + q)) ∧ ∀ p, p < i → p / lvG j = k → p < s.nV ∧ elJ s t j p)
theorem PutJ.start (s t : StV) : PutJ s t 0 (fun j => lvC j s.nV) (lvX s) :=
 ⟨fun j _ => by rw [Nat.max_eq_left (Nat.zero_le _)], fun _ _ _ _ => .inr ⟨fun _ _ => rfl, fun p hp => by omega⟩⟩
theorem zw2 {i n : Nat} (j : Nat) (h : i < n) : i / lvG j < lvC j n := by
 unfold lvC
 have h0 := zim j
 have h1 : (i + lvG j) / lvG j ≤ (n + lvG j - 1) / lvG j := Nat.div_le_div_right (by omega)
 rw [Nat.add_div_right _ h0] at h1
 omega
theorem PutJ.ge {s t : StV} {i : Nat} {m : Nat → Nat} {x : Nat → Nat → Nat} (h : PutJ s t i m x) : ∀ j, j < 5 → i / lvG j ≤ m j := fun j hj => by
 rw [h.hm j hj]
 exact lT (zmo i j hj) (Nat.div_le_div_right (by have := Nat.le_max_right s.nV i; omega))
theorem zjl {n i : Nat} (h : i < n) : max n i = max n (i + 1) := by omega
theorem PutJ.touch {s t : StV} {i : Nat} {m : Nat → Nat} {x : Nat → Nat → Nat} (h : PutJ s t i m x) (own : Bool) (ho : own = false → i < s.nV ∧ elJ s t 0 i) : PutJ s t (i + 1) (tchM own m i) (tchX own x (lvX t) i) := by
 refine ⟨fun j hj => ?_, fun j hj k hk => ?_⟩
 ·unfold tchM
  by_cases e : own = false ∧ j = 0
  ·rw [if_pos e, h.hm j hj, zjl (ho e.1).1]
  ·rw [if_neg e, h.hm j hj]
   by_cases hi : i < s.nV
   ·rw [← zjl hi, Nat.max_eq_left (Nat.le_of_lt hi)]
    unfold layM
    rw [if_pos (zw2 j hi)]
   ·rw [Nat.max_eq_right (by omega), Nat.max_eq_right (by omega)]
    exact (zmn i j hj).symm
 ·unfold tchX
  unfold tchM at hk
  by_cases e : own = false ∧ j = 0
  ·rw [if_pos e] at hk ⊢
   rcases h.hx j hj k hk with h1 | ⟨h1, h2⟩
   ·exact .inl h1
   ·refine .inr ⟨h1, fun p hp hpk => ?_⟩
    by_cases hpi : p = i
    ·subst hpi; rw [e.2]; exact ho e.1
    ·exact h2 p (by omega) hpk
  ·rw [if_neg e] at hk ⊢
   by_cases hki : k = i / lvG j
   ·refine .inl fun q hq => ?_
    unfold setN
    rw [if_pos (by rw [hki]; omega), hki, show i / lvG j * 32 + q - i / lvG j * 32 = q by omega]
   ·have hk' : k < m j := by
     have hge := h.ge j hj
     unfold layM at hk
     split at hk <;> omega
    have hx : ∀ q, q < 32 → setN (x j) (i / lvG j) (fun q => lvX t j (i / lvG j * 32 + q)) (k * 32 + q) = x j (k * 32 + q) := fun q hq => by
     unfold setN
     rw [if_neg (by omega)]
    rcases h.hx j hj k hk' with h1 | ⟨h1, h2⟩
    ·exact .inl fun q hq => (hx q hq).trans (h1 q hq)
    ·refine .inr ⟨fun q hq => (hx q hq).trans (h1 q hq), fun p hp hpk => ?_⟩
     by_cases hpi : p = i
     ·subst hpi; exact absurd hpk.symm hki
     ·exact h2 p (by omega) hpk
theorem PutJ.skip {s t : StV} {i : Nat} {m : Nat → Nat} {x : Nat → Nat → Nat} (h : PutJ s t i m x) (hi : i < s.nV) (he : ∀ j, j < 5 → elJ s t j i) : PutJ s t (i + 1) m x := by
 refine ⟨fun j hj => by rw [h.hm j hj, zjl hi], fun j hj k hk => ?_⟩
 rcases h.hx j hj k hk with h1 | ⟨h1, h2⟩
 ·exact .inl h1
 ·refine .inr ⟨h1, fun p hp hpk => ?_⟩
  by_cases hpi : p = i
  ·subst hpi; exact ⟨hi, he j hj⟩
  ·exact h2 p (by omega) hpk
theorem zm9 {n n' k : Nat} {f g : Nat → Value} (hn : n ≤ n') (h : ∀ p, p < n' → p / 4 = k → p < n ∧ f p = g p) : ∀ q, q < 32 → numX n f (k * 32 + q) = numX n' g (k * 32 + q) := fun q hq => by
 unfold numX padN LiveSmall.leS
 by_cases h1 : k * 32 + q < 8 * n'
 ·have h2 := h ((k * 32 + q) / 8) (by omega) (by omega)
  rw [if_pos h1, if_pos (by have := h2.1; omega)]
  show leB (nat (f _)) _ = leB (nat (g _)) _
  rw [h2.2]
 ·rw [if_neg h1, if_neg (by omega)]
theorem zna {n n' k : Nat} {f g : Nat → Value} (hn : n ≤ n') (h : ∀ p, p < n' → p / 32 = k → p < n ∧ f p = g p) : ∀ q, q < 32 → bytX n f (k * 32 + q) = bytX n' g (k * 32 + q) := fun q hq => by
 unfold bytX padN b8
 by_cases h1 : k * 32 + q < n'
 ·have h2 := h (k * 32 + q) (by omega) (by omega)
  rw [if_pos h1, if_pos h2.1, h2.2]
 ·rw [if_neg h1, if_neg (by omega)]
theorem PutJ.done {s t : StV} {m : Nat → Nat} {x : Nat → Nat → Nat} (h : PutJ s t t.nV m x) (hn : s.nV ≤ t.nV) (hs : s.nB = s.nV ∧ s.nP = s.nV ∧ s.nC = s.nV ∧ s.nS = s.nV) (ht : t.nB = t.nV ∧ t.nP = t.nV ∧ t.nC = t.nV ∧ t.nS = t.nV) :
 (∀ j, j < 5 → m j = lvC j t.nV) ∧ ∀ j, j < 5 → ∀ i, i < lvC j t.nV * 32 → lvX t j i = x j i := by
 have hm : ∀ j, j < 5 → m j = lvC j t.nV := fun j hj => by rw [h.hm j hj, Nat.max_eq_right hn]
 refine ⟨hm, fun j hj i hi => ?_⟩
 have key : ∀ k, k < lvC j t.nV → ∀ q, q < 32 → x j (k * 32 + q) = lvX t j (k * 32 + q) := fun k hk => by
  rcases h.hx j hj k (by rw [hm j hj]; exact hk) with h1 | ⟨h1, h2⟩
  ·exact h1
  ·intro q hq
   rw [h1 q hq]
   rcases (show j = 0 ∨ j = 1 ∨ j = 2 ∨ j = 3 ∨ j = 4 by omega) with rfl | rfl | rfl | rfl | rfl
   ·show valX s.V _ = valX t.V _
    have hk2 : k < t.nV := by
     have : lvC 0 t.nV = t.nV := by show (t.nV + 1 - 1) / 1 = _; rw [Nat.div_one]; omega
     omega
    have h3 := (h2 k hk2 (Nat.div_one k)).2
    unfold valX
    rw [show (k * 32 + q) / 32 = k by omega, show (k * 32 + q) % 32 = q by omega]
    exact zlf (fun r hr => h3 r hr) q hq
   ·show numX s.nB s.Bal _ = numX t.nB t.Bal _
    rw [hs.1, ht.1]
    exact zm9 hn (fun p hp hpk => h2 p hp hpk) q hq
   ·show bytX s.nP s.Prv _ = bytX t.nP t.Prv _
    rw [hs.2.1, ht.2.1]
    exact zna hn (fun p hp hpk => h2 p hp hpk) q hq
   ·show bytX s.nC s.Cur _ = bytX t.nC t.Cur _
    rw [hs.2.2.1, ht.2.2.1]
    exact zna hn (fun p hp hpk => h2 p hp hpk) q hq
   ·show numX s.nS s.Sco _ = numX t.nS t.Sco _
    rw [hs.2.2.2, ht.2.2.2]
    exact zm9 hn (fun p hp hpk => h2 p hp hpk) q hq
 have := key (i / 32) (by omega) (i % 32) (Nat.mod_lt _ (by omega))
 rw [show i / 32 * 32 + i % 32 = i by omega] at this
 exact this.symm
section
variable {P : Program}
theorem zln {ops : Array Oper} {rest : List Oper} {o : Oper} {a : Act} {w : World} {Q : Exit → Act → World → Prop} (hgd : o.guard = none) (ty : TypeId) (x y : Operand) (ho : o.op = .store ty x y) {b : Nat} {t : TypeId} {n : Nat} {f : Nat → Value} (hr : w.rowIs b t n f)
    (off m : Nat) (g : Nat → Value) (hx : a.eval x = .pointer (some ⟨b, off, none⟩)) (hy : a.eval y = .agg (arr m g)) (hi : (P.info? ty).map (·.size) = some m) (hfit : off + m ≤ n) (h1 : ∀ i, i < m → (g i).oneCell' = true) (F : Nat → Value) (hF : ∀ j, j < n → (if off ≤ j ∧ j < off + m then g (j - off) else f j) = F j)
    (hK : ∀ w', w'.rowIs b t n F → w.grownBy w' (some b) → wpList P ops Q rest (a.put o.dst undef) w') : wpList P ops Q (o :: rest) a w :=
 wpList_plain hgd fun _ hK' => by
  obtain ⟨w1, hrun, hr1, hg⟩ := zf3 (P := P) hr ty off m g hi hfit h1
  unfold Oper.wp execOp
  simp only [ho, hx, hy, Sem.run_bind, hrun, Result.andThen_ok, Sem.run_pure]
  exact hK' _ _ (hK _ (hr1.congr hF) hg)
end
section
variable {w w1 w' : World} {base L : Nat} {s t : StV} {T : Nat → Nat} {v : Nat → TV}
theorem LM.lists (h : LM w base L s T v) (hk : ∀ r b, 0 < r → r < 8 → LRole L s T v r b → w'.heap[b]? = w.heap[b]?) : StOwn w' base s :=
 ⟨h.own.H.blk fun ad e => hk 1 _ (by omega) (by omega) ⟨ad, e, rfl⟩, h.own.E.blk fun ad e => hk 2 _ (by omega) (by omega) ⟨ad, e, rfl⟩, h.own.V.blk fun ad e => hk 3 _ (by omega) (by omega) ⟨ad, e, rfl⟩, h.own.B.blk fun ad e => hk 4 _ (by omega) (by omega) ⟨ad, e, rfl⟩, h.own.P.blk fun ad e => hk 5 _ (by omega) (by omega) ⟨ad, e, rfl⟩, h.own.C.blk fun ad e => hk 6 _ (by omega) (by omega) ⟨ad, e, rfl⟩, h.own.S.blk fun ad e => hk 7 _ (by omega) (by omega) ⟨ad, e, rfl⟩⟩
theorem zip {r b : Nat} (hr : LRole L t T v r b) : (r < 8 ∧ SRole L t r b) ∨ ∃ j, r = j + 8 ∧ j < 5 ∧ (v j).own (T j) b := by
 match r, hr with
 | 0, hr => exact .inl ⟨by omega, hr⟩
 | 1, hr => exact .inl ⟨by omega, hr⟩
 | 2, hr => exact .inl ⟨by omega, hr⟩
 | 3, hr => exact .inl ⟨by omega, hr⟩
 | 4, hr => exact .inl ⟨by omega, hr⟩
 | 5, hr => exact .inl ⟨by omega, hr⟩
 | 6, hr => exact .inl ⟨by omega, hr⟩
 | 7, hr => exact .inl ⟨by omega, hr⟩
 | j + 8, hr => exact .inr ⟨j, rfl, hr.1, hr.2⟩
theorem zgi (ho : StOwn w1 w.heap.size t) {r b : Nat} (h : SRole L t r b) : r = 0 ∧ b = L ∨ w.heap.size ≤ b ∧ b < w1.heap.size := by
 match r, h with
 | 0, h => exact .inl ⟨rfl, h⟩
 | 1, h => exact .inr (ho.H.on h)
 | 2, h => exact .inr (ho.E.on h)
 | 3, h => exact .inr (ho.V.on h)
 | 4, h => exact .inr (ho.B.on h)
 | 5, h => exact .inr (ho.P.on h)
 | 6, h => exact .inr (ho.C.on h)
 | 7, h => exact .inr (ho.S.on h)
theorem LM.putS (h : LM w base L s T v) (hb : Below w.heap.size w w1) (ho : StOwn w1 w.heap.size t) (hap : StAp t) (hok : StOk w1 w1.heap.size t) (hr : w'.rowIs L 70 1962 (liveF t.F T)) (hg : w1.grownBy w' (some L)) :
 LM w' base L t T v ∧ Chg (fun b => b = L) w w' := by
 have hLw : L < w.heap.size := h.row.lt
 have hoth : ∀ b, b < w1.heap.size → b ≠ L → w'.heap[b]? = w1.heap[b]? := fun b hb1 hne => hg.block b hb1 (fun e => by injection e with e; exact hne e)
 have hne : ∀ {A : Option Addr}, (∀ b, OnA A b → w.heap.size ≤ b ∧ b < w1.heap.size) → ∀ ad, A = some ad → w'.heap[ad.block]? = w1.heap[ad.block]? := fun hA ad e => by
  have := hA _ ⟨ad, e, rfl⟩
  exact hoth _ this.2 (by omega)
 have o0 : StOwn w' w.heap.size t := ⟨ho.H.blk (hne fun _ hb => ho.H.on hb), ho.E.blk (hne fun _ hb => ho.E.on hb), ho.V.blk (hne fun _ hb => ho.V.on hb), ho.B.blk (hne fun _ hb => ho.B.on hb), ho.P.blk (hne fun _ hb => ho.P.on hb), ho.C.blk (hne fun _ hb => ho.C.on hb), ho.S.blk (hne fun _ hb => ho.S.on hb)⟩
 have o : StOwn w' base t := o0.mono h.bw
 have hkeep : ∀ b, b < w.heap.size → b ≠ L → w'.heap[b]? = w.heap[b]? := fun b hb1 hne => (hoth b (Nat.lt_of_lt_of_le hb1 hb.size) hne).trans (hb.block b hb1)
 have htL : ∀ j, j < 5 → ∀ b, (v j).own (T j) b → b ≠ L := fun j hj b ho2 e => by
  have := h.apart 0 (j + 8) b e ⟨hj, ho2⟩
  omega
 have hzL : ∀ j, j < 5 → ∀ b, OnA (v j).zA b → b ≠ L := fun j hj b hz e => h.zap b ⟨j, hj, hz⟩ ⟨0, e⟩
 refine ⟨{
  baseL := h.baseL, row := hr, ok := hok.of_own o, own := o
  tm := fun j hj => (h.tm j hj).keep (lT hb.size hg.size) fun b hbb => by
   rcases hbb with h1 | h1
   ·exact hkeep b ((h.tm j hj).lt h1) (htL j hj b h1)
   ·exact hkeep b ((h.tm j hj).zlt h1) (hzL j hj b h1)
  apart := fun r r' b h1 h2 => by
   rcases zip h1 with ⟨_, k1⟩ | ⟨j, e1, hj, k1⟩ <;> rcases zip h2 with ⟨_, k2⟩ | ⟨j', e2, hj', k2⟩
   ·exact zjg hr o hap r r' b k1 k2
   ·have hl := (h.tm j' hj').lt k2
    rcases zgi ho k1 with ⟨_, e⟩ | ⟨e, _⟩
    ·exact absurd e (htL j' hj' b k2)
    ·omega
   ·have hl := (h.tm j hj).lt k1
    rcases zgi ho k2 with ⟨_, e⟩ | ⟨e, _⟩
    ·exact absurd e (htL j hj b k1)
    ·omega
   ·rw [e1, e2]
    exact h.apart (j + 8) (j' + 8) b ⟨hj, k1⟩ ⟨hj', k2⟩
  zap := fun b ⟨j, hj, hz⟩ ⟨r, hr2⟩ => by
   rcases zip hr2 with ⟨_, k1⟩ | ⟨j', e1, hj', k1⟩
   ·have hl := (h.tm j hj).zlt hz
    rcases zgi ho k1 with ⟨_, e⟩ | ⟨e, _⟩
    ·exact hzL j hj b hz e
    ·omega
   ·exact h.zap b ⟨j, hj, hz⟩ ⟨j' + 8, hj', k1⟩ }, (Chg.of_below hb).trans (Chg.of_grown (S := fun b => b = L) hg (fun b e => .inl (by injection e with e; exact e.symm))) (fun b e => .inl e)⟩
theorem LM.lb (h : LM w base L s T v) (hap : StAp s) (T0 : Nat → Nat) (v0 : Nat → TV) : LB w w base L s (liveF s.F T) T0 v0 (fun _ => false) := {
 baseL := h.baseL, row := h.row, cells := fun i hi => by unfold liveF; rw [if_pos hi]
 ok := h.ok, own := h.own, ap := zjg h.row h.own hap
 slt := fun r b hr => by obtain ⟨_, _, _, k⟩ := zgg h.row h.own r b hr; exact k.lt
 tm := fun j h => by cases h
 nw := fun j h => by cases h
 tap := fun j k b h => by cases h
 nt := fun j h => by cases h
 chg := Chg.refl _ _ }
theorem TJ.bel {w0 : World} {v0 : Nat → TV} {m : Nat → Nat} {x : Nat → Nat → Nat} (h : TJ base L s T w0 v0 w v m x) (hb : Below w.heap.size w w') : TJ base L s T w0 v0 w' v m x :=
 { h with lm := h.lm.below hb, tc := h.tc.trans (Chg.of_below (S := fun _ => False) hb) (fun _ h => h.elim), sha := fun hp => (h.sha hp).belowB hp (hb.mono h.lm.bw) }
theorem znb {w6 : World} {T' : Nat → Nat} {v' : Nat → TV} (ho : StOwn w1 w.heap.size t) (h12 : Chg (fun b => b = L) w w6) (hc : Chg (LOwn L s T v) w6 w') (htn : ∀ b, LTree T' v' b → LOwn L s T v b ∨ w.heap.size ≤ b) (htz : ∀ b, LZer v' b → LZer v b ∨ w.heap.size ≤ b) : LStep w w' L s T v t T' v' where
 chg := (h12.mono (fun b _ e => ⟨0, e⟩)).trans hc (fun b h => .inl h)
 newO := fun b ⟨r, hr⟩ => by
  rcases zip hr with ⟨_, k⟩ | ⟨j, _, hj, k⟩
  ·rcases zgi ho k with ⟨_, e⟩ | ⟨e, _⟩
   ·exact .inl ⟨0, e⟩
   ·exact .inr e
  ·exact htn b ⟨j, hj, k⟩
 newZ := htz
end
end Go.Proofs.YtomilckcgmhfcaaDoor
