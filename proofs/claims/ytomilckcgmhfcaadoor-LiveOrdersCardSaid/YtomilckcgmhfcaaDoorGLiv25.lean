/- A part of what the proofs stand on: StageT. -/
import Derived.Test.YtomilckcgmhfcaaDoorGLiv1
import Derived.Test.YtomilckcgmhfcaaDoorGLiv24
/- A drawn region with stages that ends in a store. (Printed by a program of mine, out of two others.) -/
namespace Go.Proofs.YtomilckcgmhfcaaDoor
set_option maxRecDepth 40000
open Go.RowKit
section
variable {P : Program}
def opJT (P : Program) (ops : Array Oper) (J : Nat → World → Prop) (R : World → World → Prop) (o : Oper) (F : SF) (lk : Tmp → SF) (m : Option Nat) : Prop := match m with
 | none => ∀ k w, J k w → opOb P ops w.heap.size w o F lk
 | some k => ∀ a w, J k w → (∀ s ∈ o.looksAt ops, (lk s).F (a.tmps.getD s undef) w) →
  if Region.wanted o (yielded ops a.tmps) = true then o.wp P a w (fun a' w' => ∃ v, a' = a.put o.dst v ∧ F.F v w' ∧ J (k + 1) w' ∧ R w w') (fun _ _ _ => False) else F.F undef w ∧ J (k + 1) w
def obsJT (P : Program) (ops : Array Oper) (J : Nat → World → Prop) (R : World → World → Prop) (a0 : Act) : List Oper → List SF → List (Option Nat) → List (Tmp × SF) → Prop
 | [], [], [], _ => True
 | o :: os, F :: Fs, m :: ms, E => opJT P ops J R o F (look a0 E) m ∧ obsJT P ops J R a0 os Fs ms (push o F E)
 | _, _, _, _ => False
theorem obsJT_at {ops : Array Oper} {J : Nat → World → Prop} {R : World → World → Prop} {a0 : Act} : ∀ (os : List Oper) (Fs : List SF) (ms : List (Option Nat)) (E : List (Tmp × SF)) (pre : List Oper) (Fp : List SF),
  pre.length = Fp.length →
  (∀ s, (∃ (j : Nat) (o : Oper) (F : SF), pre[j]? = some o ∧ Fp[j]? = some F ∧ o.dst = some s ∧ look a0 E s = F) ∨ ((∀ o ∈ pre, o.dst ≠ some s) ∧ look a0 E s = SF.is (a0.tmps.getD s undef))) →
  obsJT P ops J R a0 os Fs ms E → os.length = Fs.length ∧ ∀ k o F m, os[k]? = some o → Fs[k]? = some F → ms[k]? = some m → ∃ lk, opJT P ops J R o F lk m ∧
   ∀ s, (∃ (j : Nat) (o' : Oper) (F' : SF), j < pre.length + k ∧ (pre ++ os)[j]? = some o' ∧ (Fp ++ Fs)[j]? = some F' ∧ o'.dst = some s ∧ lk s = F') ∨ ((∀ (j : Nat) (o' : Oper), j < pre.length + k → (pre ++ os)[j]? = some o' → o'.dst ≠ some s) ∧ lk s = SF.is (a0.tmps.getD s undef))
 | [], [], [], _, _, _, _, _, _ => ⟨rfl, fun k o F m h => by simp at h⟩
 | [], [], _ :: _, _, _, _, _, _, h => h.elim
 | [], _ :: _, _, _, _, _, _, _, h => h.elim
 | _ :: _, [], _, _, _, _, _, _, h => h.elim
 | _ :: _, _ :: _, [], _, _, _, _, _, h => h.elim
 | o :: os, F :: Fs, c :: cs, E, pre, Fp, hl, hE, h => by
  obtain ⟨h1, h2⟩ := h
  have hE' : ∀ s, (∃ (j : Nat) (o' : Oper) (F' : SF), (pre ++ [o])[j]? = some o' ∧ (Fp ++ [F])[j]? = some F' ∧ o'.dst = some s ∧ look a0 (push o F E) s = F') ∨ ((∀ o' ∈ pre ++ [o], o'.dst ≠ some s) ∧ look a0 (push o F E) s = SF.is (a0.tmps.getD s undef)) := by
   intro s
   by_cases hd : o.dst = some s
   ·refine .inl ⟨pre.length, o, F, by simp, by simp [hl], hd, ?_⟩
    simp [push, hd, look]
   ·have hp : look a0 (push o F E) s = look a0 E s := by
     unfold push
     cases hdd : o.dst with
     | none => rfl
     | some d => simp only [look]; rw [if_neg (fun e => hd (by rw [hdd, e]))]
    rcases hE s with ⟨j, o', F', h3, h4, h5, h6⟩ | ⟨h3, h4⟩
    ·have hj := (List.getElem?_eq_some_iff.1 h3).1
     exact .inl ⟨j, o', F', by rw [List.getElem?_append_left hj]; exact h3, by rw [List.getElem?_append_left (by omega)]; exact h4, h5, by rw [hp]; exact h6⟩
    ·refine .inr ⟨fun o' ho' => ?_, by rw [hp]; exact h4⟩
     rcases List.mem_append.1 ho' with h5 | h5
     ·exact h3 o' h5
     ·simp at h5; subst h5; exact hd
  obtain ⟨hlen, hrest⟩ := obsJT_at os Fs cs (push o F E) (pre ++ [o]) (Fp ++ [F]) (by simp [hl]) hE' h2
  refine ⟨by simp [hlen], fun k ok Fk ck hk hF hc => ?_⟩
  cases k with
  | zero =>
   simp only [List.getElem?_cons_zero, Option.some.injEq] at hk hF hc
   subst hk hF hc
   refine ⟨look a0 E, h1, fun s => ?_⟩
   rcases hE s with ⟨j, o', F', h3, h4, h5, h6⟩ | ⟨h3, h4⟩
   ·have hj := (List.getElem?_eq_some_iff.1 h3).1
    exact .inl ⟨j, o', F', by omega, by rw [List.getElem?_append_left hj]; exact h3, by rw [List.getElem?_append_left (by omega)]; exact h4, h5, h6⟩
   ·refine .inr ⟨fun j o' hj ho' => ?_, h4⟩
    rw [List.getElem?_append_left (by omega)] at ho'
    exact h3 o' (List.mem_of_getElem? ho')
  | succ k =>
   simp only [List.getElem?_cons_succ] at hk hF hc
   obtain ⟨lk, h3, h4⟩ := hrest k ok Fk ck hk hF hc
   refine ⟨lk, h3, fun s => ?_⟩
   have e1 : pre ++ [o] ++ os = pre ++ o :: os := by simp
   have e2 : Fp ++ [F] ++ Fs = Fp ++ F :: Fs := by simp
   have e3 : (pre ++ [o]).length + k = pre.length + (k + 1) := by simp; omega
   have h5 := h4 s
   rw [e1, e2, e3] at h5
   exact h5
structure RInvJT (n : Nat) (l : List Oper) (Fs : List SF) (ms : List (Option Nat)) (J : Nat → World → Prop) (a0 : Act) (listed : Array Bool) (a : Act) (w : World) : Prop where
 stage : J (cntJ ms listed) w
 tsz : a.tmps.size = n
 dfs : a.defers = a0.defers
 lsz : listed.size = l.length + 1
 fact : ∀ (j : Nat) o F, l[j]? = some o → Fs[j]? = some F → listed.getD j false = true → F.F (match o.dst with | some d => a.tmps.getD d undef | none => undef) w
 rest : ∀ d, (∀ (j : Nat) o, l[j]? = some o → listed.getD j false = true → o.dst ≠ some d) → a.tmps.getD d undef = a0.tmps.getD d undef
 down : ∀ (j : Nat) o, l[j]? = some o → listed.getD j false = true → ∀ e ∈ o.after, Region.binds .any e = true → listed.getD e.on false = true
theorem wpAny_factsJT {l : List Oper} {ol : Oper} {Fs : List SF} {n N : Nat} {ms : List (Option Nat)} {J : Nat → World → Prop} {R : World → World → Prop} {a0 : Act} {Q : Exit → Act → World → Prop} (hok : OkT n l ol) (hmk : MarksOk l ms) (hlen : l.length = Fs.length) (hN : N = cntA ms) (hJ : ∀ k w w', J k w → Below w.heap.size w w' → J k w') (hp : ∀ F, F ∈ Fs → ∀ v w w', F.F v w → R w w' → F.F v w')
  (hob : ∀ (k : Nat) o F m, l[k]? = some o → Fs[k]? = some F → ms[k]? = some m → ∃ lk, opJT P (l ++ [ol]).toArray J R o F lk m ∧
   ∀ s, (∃ (j : Nat) (o' : Oper) (F' : SF), j < k ∧ l[j]? = some o' ∧ Fs[j]? = some F' ∧ o'.dst = some s ∧ lk s = F') ∨ ((∀ (j : Nat) (o' : Oper), j < k → l[j]? = some o' → o'.dst ≠ some s) ∧ lk s = SF.is (a0.tmps.getD s undef)))
  (hsz : a0.tmps.size = n) (hfin : ∀ w, J N w → fin (fun a w => ol.wp P a w (Q .normal) Q) l Fs a0 w) :
  ∀ (fuel : Nat) (listed : Array Bool) (a : Act) (w : World), (∃ u : List Nat, u.Nodup ∧ (∀ i, i ∈ u ↔ i < l.length ∧ listed.getD i false = false) ∧ u.length < fuel) →
   RInvJT n l Fs ms J a0 listed a w → listed.getD l.length false = false → wpAny P .any (l ++ [ol]).toArray Q fuel listed a w := by
 have ho : ∀ (i : Nat), i < l.length → (l ++ [ol]).toArray[i]? = l[i]? := fun i hi => by simp [List.getElem?_append_left hi]
 have hol : (l ++ [ol]).toArray[l.length]? = some ol := by simp
 -- all listed: the end
 have hend : ∀ (listed : Array Bool) (a : Act) (w : World), RInvJT n l Fs ms J a0 listed a w → (∀ i, i < l.length → listed.getD i false = true) → ol.wp P a w (Q .normal) Q := by
  intro listed a w hI hall
  refine fin_use l Fs a0 hlen (hfin w (by rw [hN, ← cnt_all hmk.len hall]; exact hI.stage)) (fun j o F h1 h2 => hI.fact j o F h1 h2 (hall j (List.getElem?_eq_some_iff.1 h1).1)) (hsz.trans hI.tsz.symm) hI.dfs.symm ?_ (fun j o d h1 h2 => by rw [hI.tsz]; exact hok.room j o d h1 h2)
  intro d hd
  exact (hI.rest d (fun j o h1 _ => hd j o h1)).symm
 have hone : ∀ (listed : Array Bool), listed.size = l.length + 1 → (∀ i, i ∈ Region.ready .any (l ++ [ol]).toArray listed → i = l.length) → listed.getD l.length false = false → ∀ i, i < l.length → listed.getD i false = true := by
  intro listed hls hr _ i
  induction i using Nat.strongRecOn with
  | ind i ih =>
   intro hi
   cases hc : listed.getD i false with
   | true => rfl
   | false =>
    exfalso
    have hil : i < listed.size := by omega
    have h1 : i ∈ Region.ready .any (l ++ [ol]).toArray listed := mem_ready.2 ⟨by simpa [Array.getD, hil] using hc, l[i], by rw [ho i hi]; simp [hi], fun e he hb => ih e.on (hok.back i l[i] (by simp [hi]) e he hb) (by have := hok.back i l[i] (by simp [hi]) e he hb; omega)⟩
    have := hr i h1; omega
 intro fuel
 induction fuel with
 | zero =>
  intro listed a w ⟨u, _, hu, hul⟩
  omega
 | succ fuel ih =>
  intro listed a w ⟨u, hnd, hu, hul⟩ hI hlast
  have hsz2 : listed.size = l.length + 1 := hI.lsz
  refine ⟨fun hr => ?_, fun i hi => ?_⟩
  ·exfalso
   have hall := hone listed hsz2 (fun i hi => by rw [hr] at hi; cases hi) hlast
   have : l.length ∈ Region.ready .any (l ++ [ol]).toArray listed := mem_ready.2 ⟨by simpa [Array.getD, hsz2] using hlast, ol, hol, fun e he hb => hall e.on (hok.lastBack e he hb)⟩
   rw [hr] at this; cases this
  obtain ⟨h1, o, h2, h3⟩ := mem_ready.1 hi
  by_cases hil : i < l.length
  case neg =>
   have hi2 : i < (l ++ [ol]).toArray.size := (Array.getElem?_eq_some_iff.1 h2).1
   have hil2 : i = l.length := by simp at hi2; omega
   subst hil2
   rw [hol] at h2; injection h2 with h2; subst h2
   have hall0 : ∀ d j, l.length - j = d → j < l.length → listed.getD j false = true := by
    intro d
    induction d using Nat.strongRecOn with
    | ind d ihd =>
     intro j hd hj
     rcases hok.lastAll j hj with ⟨e, he, hb, hon⟩ | ⟨k, ok, hjk, hk, e, he, hb, hon⟩
     ·rw [← hon]; exact h3 e he hb
     ·have hkl : k < l.length := (List.getElem?_eq_some_iff.1 hk).1
      rw [← hon]; exact hI.down k ok hk (ihd (l.length - k) (by omega) k rfl hkl) e he hb
   have hall : ∀ j, j < l.length → listed.getD j false = true := fun j hj => hall0 _ j rfl hj
   have hQ := hend listed a w hI hall
   unfold wpOp
   rw [hol]
   simp only []
   rw [if_pos (by simp [Region.wanted, hok.lastGuard])]
   left
   refine Oper.wp_mono (fun a' w' hq => ?_) hQ
   have hr0 : Region.ready .any (l ++ [ol]).toArray (listed.setIfInBounds l.length true) = [] := by
    rw [List.eq_nil_iff_forall_not_mem]
    intro k hk
    obtain ⟨hk1, ok, hk2, _⟩ := mem_ready.1 hk
    have hk3 : k < (l ++ [ol]).toArray.size := (Array.getElem?_eq_some_iff.1 hk2).1
    have hk4 : k < l.length + 1 := by simpa using hk3
    by_cases e : k = l.length
    ·subst e; simp [Array.getD, hsz2] at hk1
    ·have := hall k (by omega)
     rw [getD_set_ne true (Ne.symm e)] at hk1
     have hks : k < listed.size := by omega
     simp [Array.getD, hks] at hk1 this
     rw [hk1] at this; cases this
   cases fuel with
   | zero => exact ⟨hr0, hq⟩
   | succ f => exact ⟨fun _ => hq, fun k hk => by rw [hr0] at hk; cases hk⟩
  have hls : i < listed.size := by omega
  have hf : listed.getD i false = false := by simpa [Array.getD, hls] using h1
  have h2' : l[i]? = some o := by rw [← ho i hil]; exact h2
  obtain ⟨F, hF⟩ : ∃ F, Fs[i]? = some F := ⟨Fs[i]'(by omega), by simp [show i < Fs.length by omega]⟩
  obtain ⟨m, hm⟩ : ∃ m, ms[i]? = some m := ⟨ms[i]'(by rw [hmk.len]; exact hil), by simp [show i < ms.length by rw [hmk.len]; exact hil]⟩
  obtain ⟨lk, hop, hlk⟩ := hob i o F m h2' hF hm
  -- what its operands are known to be
  have hfacts : ∀ s ∈ o.looksAt (l ++ [ol]).toArray, (lk s).F (a.tmps.getD s undef) w := by
   intro s hs
   rcases hlk s with ⟨j, o', F', hj, hoj, hFj, hd, e⟩ | ⟨hno, e⟩
   ·rw [e]
    have hlst : listed.getD j false = true := by
     rcases hok.two i j o o' h2' hoj hj with ⟨ed, he, hb, hon⟩ | ⟨h4, _⟩
     ·rw [← hon]; exact h3 ed he hb
     ·exact absurd hs (h4 s hd)
    have := hI.fact j o' F' hoj hFj hlst
    simpa [hd] using this
   ·rw [e]
    refine hI.rest s (fun j o' hoj hl hd => ?_)
    rcases Nat.lt_trichotomy j i with hji | hji | hji
    ·exact hno j o' hji hoj hd
    ·subst hji; rw [hf] at hl; cases hl
    ·rcases hok.two j i o' o hoj h2' hji with ⟨ed, he, hb, hon⟩ | ⟨_, h4⟩
     ·have := hI.down j o' hoj hl ed he hb
      rw [hon, hf] at this; cases this
     ·exact h4 s hd hs
  -- the state behind it
  have hstep : ∀ v w', F.F v w' → (Below w.heap.size w w' ∨ R w w') → J (cntJ ms (listed.setIfInBounds i true)) w' → wpAny P .any (l ++ [ol]).toArray Q fuel (listed.setIfInBounds i true) (a.put o.dst v) w' := by
   intro v w' hFv hbel hst
   have hroom : ∀ t, o.dst = some t → t < a.tmps.size := fun t ht => by rw [hI.tsz]; exact hok.room i o t h2' ht
   refine ih _ _ _ ⟨u.erase i, hnd.erase i, fun k => ?_, ?_⟩ ?_ (by rw [getD_set_ne false (show i ≠ l.length by omega)]; exact hlast)
   ·rw [hnd.mem_erase_iff, hu k]
    constructor
    ·rintro ⟨hki, hkl, hkf⟩
     exact ⟨hkl, by rw [getD_set_ne false (Ne.symm hki)]; exact hkf⟩
    ·rintro ⟨hkl, hkf⟩
     have hki : k ≠ i := by
      rintro rfl
      simp [Array.getD, hls] at hkf
     exact ⟨hki, hkl, by rw [getD_set_ne false (Ne.symm hki)] at hkf; exact hkf⟩
   ·have hiu : i ∈ u := (hu i).2 ⟨hil, hf⟩
    have := List.length_pos_of_mem hiu
    rw [List.length_erase_of_mem hiu]; omega
   ·have hset : ∀ j, (listed.setIfInBounds i true).getD j false = true → j = i ∨ listed.getD j false = true := fun j hj => by
     by_cases e : j = i
     ·exact .inl e
     ·rw [getD_set_ne false (Ne.symm e)] at hj; exact .inr hj
    refine ⟨hst, ?_, ?_, by simpa using hI.lsz, ?_, ?_, ?_⟩
    ·rw [← hI.tsz]; cases o.dst <;> simp [Act.put]
    ·rw [← hI.dfs]; cases o.dst <;> simp [Act.put]
    ·intro j oj Fj hoj hFj hlj
     by_cases e : j = i
     ·subst e
      rw [h2'] at hoj; injection hoj with hoj; subst hoj
      rw [hF] at hFj; injection hFj with hFj; subst hFj
      cases hd : o.dst with
      | none => exact (hok.has j o h2' hd).elim
      | some d => simp only []; rw [put_getD _ _ _ _ (by rw [← hd]; exact hroom)]; simpa using hFv
     ·have hl' := (hset j hlj).resolve_left e
      have h5 := (show ∀ x, Fj.F x w → Fj.F x w' from fun x hx => by
       rcases hbel with h9 | h9
       ·exact Fj.st _ _ _ hx h9
       ·exact hp Fj (List.mem_of_getElem? hFj) _ _ w' hx h9) _ (hI.fact j oj Fj hoj hFj hl')
      cases hd : oj.dst with
      | none => simpa [hd] using h5
      | some d =>
       simp only [hd] at h5 ⊢
       rw [put_getD _ _ _ _ hroom, if_neg (fun h6 => e (hok.dsts j i oj o d hoj h2' hd h6))]
       exact h5
    ·intro d hd
     have hne : o.dst ≠ some d := hd i o h2' (by simp [Array.getD, hls])
     rw [put_getD _ _ _ _ hroom, if_neg hne]
     refine hI.rest d (fun j oj hoj hl => hd j oj hoj ?_)
     by_cases e : j = i
     ·subst e; simp [Array.getD, hls]
     ·rw [getD_set_ne false (Ne.symm e)]; exact hl
    ·intro j oj hoj hlj e he hb
     have key : listed.getD e.on false = true := by
      rcases hset j hlj with h4 | h4
      ·subst h4
       rw [h2'] at hoj; injection hoj with hoj; subst hoj
       exact h3 e he hb
      ·exact hI.down j oj hoj h4 e he hb
     have hne : e.on ≠ i := fun h => by rw [h, hf] at key; cases key
     rw [getD_set_ne false (Ne.symm hne)]; exact key
  unfold wpOp
  rw [h2]
  simp only []
  cases m with
  | none =>
   have hthis := hop (cntJ ms listed) w hI.stage a w (Below.refl _ _) hfacts
   have hc := cnt_none hmk hm listed
   split
   ·rename_i hw
    rw [if_pos hw] at hthis
    left
    refine Oper.wp_safe ?_
    have h5 := Oper.wp_mono (K' := wpAny P .any (l ++ [ol]).toArray Q fuel (listed.setIfInBounds i true)) (fun a' w' ⟨v, e, h6, h7⟩ => by rw [e]; exact hstep v w' h6 (.inl h7) (by rw [hc]; exact hJ _ _ _ hI.stage h7)) hthis
    exact h5
   ·rename_i hw
    rw [if_neg hw] at hthis
    exact hstep undef w hthis (.inl (Below.refl _ _)) (by rw [hc]; exact hI.stage)
  | some r =>
   have hbefore : ∀ j, j < i → (∃ q, ms[j]? = some (some q)) → listed.getD j false = true := fun j hj hq => by
    exact beh_up hI.down l.length i o (hmk.edge i j r o h2' hm hj hq) h2' h3
   have hbehind : ∀ j, i < j → (∃ q, ms[j]? = some (some q)) → listed.getD j false = false := fun j hj ⟨q, hq⟩ => by
    cases hl : listed.getD j false with
    | false => rfl
    | true =>
     have hjl : j < l.length := by have := (List.getElem?_eq_some_iff.1 hq).1; rw [hmk.len] at this; exact this
     have := beh_up hI.down l.length j l[j] (hmk.edge j i q l[j] (by simp [hjl]) hq hj ⟨r, hm⟩) (by simp [hjl]) (fun e he hb => hI.down j l[j] (by simp [hjl]) hl e he hb)
     rw [hf] at this; cases this
   obtain ⟨hc1, hc2⟩ := cnt_some hmk hm hls hf hbefore hbehind
   have hthis := hop a w (by rw [← hc1]; exact hI.stage) hfacts
   split
   ·rename_i hw
    rw [if_pos hw] at hthis
    left
    refine Oper.wp_safe ?_
    have h5 := Oper.wp_mono (K' := wpAny P .any (l ++ [ol]).toArray Q fuel (listed.setIfInBounds i true)) (fun a' w' ⟨v, e, h6, h7, h8⟩ => by rw [e]; exact hstep v w' h6 (.inr h8) (by rw [hc2]; exact h7)) hthis
    exact h5
   ·rename_i hw
    rw [if_neg hw] at hthis
    exact hstep undef w hthis.1 (.inl (Below.refl _ _)) (by rw [hc2]; exact hthis.2)

/-- A DRAWN REGION WITH STAGES THAT ENDS IN ONE OPERATION BEHIND ALL OTHERS; the calls that change memory keep what R keeps. -/
theorem wp_region_stageT {id n N : Nat} {l : List Oper} {ol : Oper} (J : Nat → World → Prop) (R : World → World → Prop) (Fs : List SF) (ms : List (Option Nat)) {Q : Exit → Act → World → Prop} {a : Act} {w : World} (hm : P.follows .mixedOrders = true) (hok : okT n l ol = true) (hmk : marksOk l ms = true) (hN : N = cntA ms) (hsz : a.tmps.size = n)
  (hJ : ∀ k w w', J k w → Below w.heap.size w w' → J k w') (hp : ∀ F, F ∈ Fs → ∀ v w w', F.F v w → R w w' → F.F v w') (h0 : J 0 w) (hob : obsJT P (l ++ [ol]).toArray J R a l Fs ms []) (hfin : ∀ w', J N w' → fin (fun a w => ol.wp P a w (Q .normal) Q) l Fs a w') : (Code.region id (l ++ [ol]).toArray true).wp P Q a w := by
 have h1 := obsJT_at (P := P) (J := J) (R := R) l Fs ms [] [] [] rfl (fun s => .inr ⟨by simp, rfl⟩) hob
 have hnone : ∀ (m j : Nat), (Array.replicate m false).getD j false = false := fun m j => by unfold Array.getD; split <;> simp
 refine wp_region_any hm (wpAny_factsJT (R := R) (okT_spec hok) (marksOk_spec hmk) h1.1 hN hJ hp (fun k o F m h2 h3 h4 => ?_) hsz hfin _ _ a _ ⟨List.range l.length, List.nodup_range, fun i => ?_, by simp⟩ ⟨?_, hsz, rfl, by simp, ?_, fun _ _ => rfl, ?_⟩ (by simp [Array.getD]))
 ·obtain ⟨lk, h5, h6⟩ := h1.2 k o F m h2 h3 h4
  refine ⟨lk, h5, fun s => ?_⟩
  simpa using h6 s
 ·simp [Array.getD]
 ·have hc : cntJ ms (Array.replicate (l ++ [ol]).toArray.size false) = 0 := by
   unfold cntJ
   rw [List.length_eq_zero_iff, List.filter_eq_nil_iff]
   intro j _
   rw [hnone]; simp
  rw [hc]
  exact hJ _ _ _ h0 (Below.refl _ _).drew
 ·intro j o F h2 h3 h4
  simp [Array.getD] at h4
 ·intro j o h2 h4
  simp [Array.getD] at h4
theorem opJT_fn {ops : Array Oper} {J : Nat → World → Prop} {R : World → World → Prop} {o : Oper} {F : SF} {lk : Tmp → SF} {k : Nat} {f : FuncId} (hent : ∀ vs w, (callFunc f vs).run P w = .ok (.enter f vs) w) {xs : Array Operand} {vs : Array Value} {ts : Array TypeId} (hg : o.guard = none) (hop : o.op = .call { callee := .value (.func f), args := xs, argTypes := ts }) (hx : ∀ a w, Opd lk o a w → xs.map a.eval = vs)
  (hr : ∀ w, J k w → Calls P f vs w fun e w' => ∃ v, e = .returned v ∧ F.F v w' ∧ J (k + 1) w' ∧ R w w') : opJT P ops J R o F lk (some k) := by
 intro a w hj hf
 rw [if_pos (by simp [Region.wanted, hg])]
 have hO : Opd lk o a w := fun s hs => by rw [← getD_eq]; exact hf s (List.mem_append_left _ hs)
 have hrun : (execOp a.eval o).run P w = .ok (.enter f vs) w := by
  have h1 := hx a w hO
  unfold execOp
  rw [hop]
  simp only [resolve]
  rw [show (Array.map (fun x => a.eval x) xs) = vs from h1]
  simp [invoke, Deferred.ofValue, Act.eval, hent]
 unfold Oper.wp
 rw [hrun]
 exact (hr w hj).mono fun e w' ⟨v, he, h1, h2⟩ => by subst he; exact ⟨v, rfl, h1, h2⟩
theorem opJT_fn2 {ops : Array Oper} {J : Nat → World → Prop} {R : World → World → Prop} {o : Oper} {F : SF} {lk : Tmp → SF} {k : Nat} {f : FuncId} (hent : ∀ vs w, (callFunc f vs).run P w = .ok (.enter f vs) w) {x y : Operand} {v u : Value} {ts : Array TypeId} (hg : o.guard = none) (hop : o.op = .call { callee := .value (.func f), args := #[x, y], argTypes := ts }) (hx : OpK lk x v) (hy : OpK lk y u)
  (hr : ∀ w, J k w → Calls P f #[v, u] w fun e w' => ∃ r, e = .returned r ∧ F.F r w' ∧ J (k + 1) w' ∧ R w w') : opJT P ops J R o F lk (some k) :=
 opJT_fn hent hg hop (fun a w hf => by
  have h := hx.eval hf (by rw [hop]; simp [Op.operands, Call.operands])
  have h' := hy.eval hf (by rw [hop]; simp [Op.operands, Call.operands])
  simp [h, h']) hr
end
end Go.Proofs.YtomilckcgmhfcaaDoor
