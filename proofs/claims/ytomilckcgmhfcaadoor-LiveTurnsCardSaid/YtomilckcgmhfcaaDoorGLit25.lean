/- Lemmas that the proof stands on. -/
import Derived.Test.YtomilckcgmhfcaaDoorGLit4
namespace Go.Proofs.YtomilckcgmhfcaaDoor
set_option maxRecDepth 40000
set_option maxHeartbeats 64000000
open Go.RowKit
section
variable {P : Program}
def mkd (ms : List (Option Nat)) (j : Nat) : Bool := match ms[j]? with | some (some _) => true | _ => false
theorem zin {ms : List (Option Nat)} {j : Nat} : mkd ms j = true ↔ ∃ q, ms[j]? = some (some q) := by
 unfold mkd
 split
 ·rename_i q h; simp [h]
 ·rename_i h
  simp only [Bool.false_eq_true, false_iff, not_exists]
  exact fun q hq => h q hq
def cntJ (ms : List (Option Nat)) (listed : Array Bool) : Nat := ((List.range ms.length).filter fun j => mkd ms j && listed.getD j false).length
def cntA (ms : List (Option Nat)) : Nat := ((List.range ms.length).filter fun j => mkd ms j).length
def behB (l : List Oper) (j : Nat) : Nat → Nat → Bool
  | 0, _ => false
  | f + 1, i => match l[i]? with
   | some oi => oi.after.any fun e => Region.binds .any e && (e.on == j || (decide (j < e.on) && behB l j f e.on))
   | none => false
theorem zh5 {l : List Oper} {listed : Array Bool} (hd : ∀ (i : Nat) o, l[i]? = some o → listed.getD i false = true → ∀ e ∈ o.after, Region.binds .any e = true → listed.getD e.on false = true) {j : Nat} :
 ∀ (f i : Nat) (o : Oper), behB l j f i = true → l[i]? = some o → (∀ e ∈ o.after, Region.binds .any e = true → listed.getD e.on false = true) → listed.getD j false = true
 | 0, _, _, h, _, _ => by simp [behB] at h
 | f + 1, i, o, h, hi, hl => by
  unfold behB at h
  rw [hi] at h
  simp only [Array.any_eq_true, Bool.and_eq_true, Bool.or_eq_true, beq_iff_eq, decide_eq_true_eq] at h
  obtain ⟨x, hx, h1, h2⟩ := h
  have h3 := hl o.after[x] (Array.getElem_mem hx) h1
  rcases h2 with h2 | ⟨_, h2⟩
  ·rw [h2] at h3; exact h3
  ·cases ho : l[o.after[x].on]? with
   | none =>
    cases f with
    | zero => simp [behB] at h2
    | succ f => unfold behB at h2; rw [ho] at h2; cases h2
   | some o2 => exact zh5 hd f _ o2 h2 ho (fun e he hb => hd _ o2 ho h3 e he hb)
def marksOk (l : List Oper) (ms : List (Option Nat)) : Bool :=
 decide (ms.length = l.length) && (List.range l.length).all fun i => match ms[i]?, l[i]? with
  | some (some r), some _ => decide (r = ((List.range i).filter fun j => mkd ms j).length) && (List.range i).all fun j => !mkd ms j || behB l j l.length i
  | _, _ => true
structure MarksOk (l : List Oper) (ms : List (Option Nat)) : Prop where
 len : ms.length = l.length
 rank : ∀ i r, ms[i]? = some (some r) → r = ((List.range i).filter fun j => mkd ms j).length
 edge : ∀ i j r oi, l[i]? = some oi → ms[i]? = some (some r) → j < i → (∃ q, ms[j]? = some (some q)) → behB l j l.length i = true
theorem zh6 {l : List Oper} {ms : List (Option Nat)} (h : marksOk l ms = true) : MarksOk l ms := by
 unfold marksOk at h
 rw [Bool.and_eq_true, decide_eq_true_eq, List.all_eq_true] at h
 obtain ⟨h1, h2⟩ := h
 refine ⟨h1, fun i r hr => ?_, fun i j r oi hi hr hj hq => ?_⟩
 ·have hil : i < l.length := by have := (List.getElem?_eq_some_iff.1 hr).1; omega
  have h3 := h2 i (List.mem_range.2 hil)
  rw [hr, show l[i]? = some l[i] by simp [hil]] at h3
  simp only [Bool.and_eq_true, decide_eq_true_eq] at h3
  exact h3.1
 ·have hil : i < l.length := (List.getElem?_eq_some_iff.1 hi).1
  have h3 := h2 i (List.mem_range.2 hil)
  rw [hr, hi] at h3
  simp only [Bool.and_eq_true, List.all_eq_true] at h3
  have h4 := h3.2 j (List.mem_range.2 hj)
  rw [zin.2 hq] at h4
  simpa only [Bool.not_true, Bool.false_or] using h4
theorem zj6 (p : Nat → Bool) (i : Nat) : ∀ m, i ≤ m → (∀ j, i ≤ j → j < m → p j = false) → (List.range m).filter p = (List.range i).filter p := by
 intro m
 induction m with
 | zero => intro h _; rw [show i = 0 by omega]
 | succ m ih =>
  intro h hp
  by_cases e : i = m + 1
  ·rw [e]
  ·rw [List.range_succ, List.filter_append, ih (by omega) (fun j h1 h2 => hp j h1 (by omega))]
   simp [hp m (by omega) (by omega)]
theorem zoc {l : List Oper} {ms : List (Option Nat)} {listed : Array Bool} (hl : ms.length = l.length) (h : ∀ i, i < l.length → listed.getD i false = true) : cntJ ms listed = cntA ms := by
 unfold cntJ cntA
 congr 1
 refine List.filter_congr fun j hj => ?_
 rw [h j (by rw [← hl]; exact List.mem_range.1 hj), Bool.and_true]
theorem zmx {l : List Oper} {ms : List (Option Nat)} {i : Nat} (_hmk : MarksOk l ms) (hm : ms[i]? = some none) (listed : Array Bool) : cntJ ms (listed.setIfInBounds i true) = cntJ ms listed := by
 unfold cntJ
 congr 1
 refine List.filter_congr fun j _ => ?_
 by_cases e : j = i
 ·subst e
  have : mkd ms j = false := by unfold mkd; rw [hm]
  rw [this]; rfl
 ·rw [getD_set_ne false (Ne.symm e)]
theorem zmy {l : List Oper} {ms : List (Option Nat)} {i r : Nat} {listed : Array Bool} (hmk : MarksOk l ms) (hm : ms[i]? = some (some r)) (hls : i < listed.size) (hf : listed.getD i false = false)
    (h1 : ∀ j, j < i → (∃ q, ms[j]? = some (some q)) → listed.getD j false = true) (h2 : ∀ j, i < j → (∃ q, ms[j]? = some (some q)) → listed.getD j false = false) : cntJ ms listed = r ∧ cntJ ms (listed.setIfInBounds i true) = r + 1 := by
 have hil : i < ms.length := (List.getElem?_eq_some_iff.1 hm).1
 have hlow : ∀ j, j < i → (mkd ms j && listed.getD j false) = mkd ms j := fun j hj => by
  cases hd : mkd ms j with
  | false => rfl
  | true => rw [h1 j hj (zin.1 hd)]; rfl
 have hhi : ∀ j, i < j → (mkd ms j && listed.getD j false) = false := fun j hj => by
  cases hd : mkd ms j with
  | false => rfl
  | true => rw [h2 j hj (zin.1 hd)]; rfl
 unfold cntJ
 constructor
 ·rw [zj6 _ i ms.length (by omega) (fun j h3 h4 => by
   by_cases e : j = i
   ·subst e; rw [hf, Bool.and_false]
   ·exact hhi j (by omega)), hmk.rank i r hm]
  congr 1
  exact List.filter_congr fun j hj => hlow j (List.mem_range.1 hj)
 ·rw [zj6 _ (i + 1) ms.length (by omega) (fun j h3 h4 => by
   rw [getD_set_ne false (show i ≠ j by omega)]; exact hhi j (by omega)), List.range_succ, List.filter_append, List.length_append, hmk.rank i r hm]
  congr 1
  ·congr 1
   refine List.filter_congr fun j hj => ?_
   have hj := List.mem_range.1 hj
   rw [getD_set_ne false (show i ≠ j by omega)]; exact hlow j hj
  ·have h5 : mkd ms i = true := zin.2 ⟨r, hm⟩
   have h6 : (listed.setIfInBounds i true).getD i false = true := by simp [Array.getD, hls]
   have h7 : List.filter (fun j => mkd ms j && (listed.setIfInBounds i true).getD j false) [i] = [i] := by rw [List.filter_cons, h5, h6]; rfl
   rw [h7]; rfl
def opJ (P : Program) (ops : Array Oper) (J : Nat → World → Prop) (o : Oper) (F : SF) (lk : Tmp → SF) (m : Option Nat) : Prop := match m with
 | none => ∀ k w, J k w → opOb P ops w.heap.size w o F lk
 | some k => ∀ a w, J k w → (∀ s ∈ o.looksAt ops, (lk s).F (a.tmps.getD s undef) w) →
  if Region.wanted o (yielded ops a.tmps) = true then o.wp P a w (fun a' w' => ∃ v, a' = a.put o.dst v ∧ F.F v w' ∧ J (k + 1) w') (fun _ _ _ => False) else F.F undef w ∧ J (k + 1) w
def obsJ (P : Program) (ops : Array Oper) (J : Nat → World → Prop) (a0 : Act) : List Oper → List SF → List (Option Nat) → List (Tmp × SF) → Prop
  | [], [], [], _ => True
  | o :: os, F :: Fs, m :: ms, E => opJ P ops J o F (look a0 E) m ∧ obsJ P ops J a0 os Fs ms (push o F E)
  | _, _, _, _ => False
theorem zod {ops : Array Oper} {J : Nat → World → Prop} {a0 : Act} : ∀ (os : List Oper) (Fs : List SF) (ms : List (Option Nat)) (E : List (Tmp × SF)) (pre : List Oper) (Fp : List SF),
 pre.length = Fp.length →
 (∀ s, (∃ (j : Nat) (o : Oper) (F : SF), pre[j]? = some o ∧ Fp[j]? = some F ∧ o.dst = some s ∧ look a0 E s = F) ∨ ((∀ o ∈ pre, o.dst ≠ some s) ∧ look a0 E s = sI (a0.tmps.getD s undef))) →
 obsJ P ops J a0 os Fs ms E → os.length = Fs.length ∧ ∀ k o F m, os[k]? = some o → Fs[k]? = some F → ms[k]? = some m → ∃ lk, opJ P ops J o F lk m ∧
  ∀ s, (∃ (j : Nat) (o' : Oper) (F' : SF), j < pre.length + k ∧ (pre ++ os)[j]? = some o' ∧ (Fp ++ Fs)[j]? = some F' ∧ o'.dst = some s ∧ lk s = F') ∨ ((∀ (j : Nat) (o' : Oper), j < pre.length + k → (pre ++ os)[j]? = some o' → o'.dst ≠ some s) ∧ lk s = sI (a0.tmps.getD s undef))
 | [], [], [], _, _, _, _, _, _ => ⟨rfl, fun k o F m h => by simp at h⟩
 | [], [], _ :: _, _, _, _, _, _, h => h.elim
 | [], _ :: _, _, _, _, _, _, _, h => h.elim
 | _ :: _, [], _, _, _, _, _, _, h => h.elim
 | _ :: _, _ :: _, [], _, _, _, _, _, h => h.elim
 | o :: os, F :: Fs, c :: cs, E, pre, Fp, hl, hE, h => by
  obtain ⟨h1, h2⟩ := h
  have hE' : ∀ s, (∃ (j : Nat) (o' : Oper) (F' : SF), (pre ++ [o])[j]? = some o' ∧ (Fp ++ [F])[j]? = some F' ∧ o'.dst = some s ∧ look a0 (push o F E) s = F') ∨ ((∀ o' ∈ pre ++ [o], o'.dst ≠ some s) ∧ look a0 (push o F E) s = sI (a0.tmps.getD s undef)) := by
   intro s
   by_cases hd : o.dst = some s
   ·refine .inl ⟨pre.length, o, F, by simp, by simp [hl], hd, ?_⟩
    simp [push, hd, look]
   ·have hp : look a0 (push o F E) s = look a0 E s := by
     unfold push
     cases hdd : o.dst with
     | none => rfl
     | some d => simp only [look]; rw [if_neg (fun e => hd (by rw [hdd, e]))]
    rcases hE s with ⟨j, o', F', h3, h4, h5, h6⟩ | ⟨h3, h4⟩
    ·have hj := (List.getElem?_eq_some_iff.1 h3).1
     exact .inl ⟨j, o', F', by rw [List.getElem?_append_left hj]; exact h3, by rw [List.getElem?_append_left (by omega)]; exact h4, h5, by rw [hp]; exact h6⟩
    ·refine .inr ⟨fun o' ho' => ?_, by rw [hp]; exact h4⟩
     rcases List.mem_append.1 ho' with h5 | h5
     ·exact h3 o' h5
     ·simp at h5; subst h5; exact hd
  obtain ⟨hlen, hrest⟩ := zod os Fs cs (push o F E) (pre ++ [o]) (Fp ++ [F]) (by simp [hl]) hE' h2
  refine ⟨by simp [hlen], fun k ok Fk ck hk hF hc => ?_⟩
  cases k with
  | zero =>
   simp only [List.getElem?_cons_zero, Option.some.injEq] at hk hF hc
   subst hk hF hc
   refine ⟨look a0 E, h1, fun s => ?_⟩
   rcases hE s with ⟨j, o', F', h3, h4, h5, h6⟩ | ⟨h3, h4⟩
   ·have hj := (List.getElem?_eq_some_iff.1 h3).1
    exact .inl ⟨j, o', F', by omega, by rw [List.getElem?_append_left hj]; exact h3, by rw [List.getElem?_append_left (by omega)]; exact h4, h5, h6⟩
   ·refine .inr ⟨fun j o' hj ho' => ?_, h4⟩
    rw [List.getElem?_append_left (by omega)] at ho'
    exact h3 o' (List.mem_of_getElem? ho')
  | succ k =>
   simp only [List.getElem?_cons_succ] at hk hF hc
   obtain ⟨lk, h3, h4⟩ := hrest k ok Fk ck hk hF hc
   refine ⟨lk, h3, fun s => ?_⟩
   have e1 : pre ++ [o] ++ os = pre ++ o :: os := by simp
   have e2 : Fp ++ [F] ++ Fs = Fp ++ F :: Fs := by simp
   have e3 : (pre ++ [o]).length + k = pre.length + (k + 1) := by simp; omega
   have h5 := h4 s
   rw [e1, e2, e3] at h5
   exact h5
structure RInvJ (n : Nat) (l : List Oper) (Fs : List SF) (ms : List (Option Nat)) (J : Nat → World → Prop) (a0 : Act) (listed : Array Bool) (a : Act) (w : World) : Prop where
 stage : J (cntJ ms listed) w
 tsz : a.tmps.size = n
 dfs : a.defers = a0.defers
 lsz : listed.size = l.length
 fact : ∀ (j : Nat) o F, l[j]? = some o → Fs[j]? = some F → listed.getD j false = true → F.F (match o.dst with | some d => a.tmps.getD d undef | none => undef) w
 rest : ∀ d, (∀ (j : Nat) o, l[j]? = some o → listed.getD j false = true → o.dst ≠ some d) → a.tmps.getD d undef = a0.tmps.getD d undef
 down : ∀ (j : Nat) o, l[j]? = some o → listed.getD j false = true → ∀ e ∈ o.after, Region.binds .any e = true → listed.getD e.on false = true

theorem zmz {l : List Oper} {Fs : List SF} {n N : Nat} {ms : List (Option Nat)} {J : Nat → World → Prop} {a0 : Act} {Q : Exit → Act → World → Prop} (hok : OkR n l.toArray) (hmk : MarksOk l ms) (hlen : l.length = Fs.length) (hN : N = cntA ms) (hJ : ∀ k w w', J k w → Below w.heap.size w w' → J k w') (hp : ∀ F, F ∈ Fs → ∀ v w w', F.F v w → F.F v w')
    (hob : ∀ (k : Nat) o F m, l[k]? = some o → Fs[k]? = some F → ms[k]? = some m → ∃ lk, opJ P l.toArray J o F lk m ∧
     ∀ s, (∃ (j : Nat) (o' : Oper) (F' : SF), j < k ∧ l[j]? = some o' ∧ Fs[j]? = some F' ∧ o'.dst = some s ∧ lk s = F') ∨ ((∀ (j : Nat) (o' : Oper), j < k → l[j]? = some o' → o'.dst ≠ some s) ∧ lk s = sI (a0.tmps.getD s undef)))
    (hsz : a0.tmps.size = n) (hfin : ∀ w, J N w → fin (Q .normal) l Fs a0 w) :
    ∀ (fuel : Nat) (listed : Array Bool) (a : Act) (w : World), (∃ u : List Nat, u.Nodup ∧ (∀ i, i ∈ u ↔ i < l.length ∧ listed.getD i false = false) ∧ u.length ≤ fuel) →
     RInvJ n l Fs ms J a0 listed a w → wpAny P .any l.toArray Q fuel listed a w := by
 have ho : ∀ (i : Nat), l.toArray[i]? = l[i]? := fun i => by simp
 have hend : ∀ (listed : Array Bool) (a : Act) (w : World), RInvJ n l Fs ms J a0 listed a w → (∀ i, i < l.length → listed.getD i false = true) → Q .normal a w := by
  intro listed a w hI hall
  refine zfv l Fs a0 hlen (hfin w (by rw [hN, ← zoc hmk.len hall]; exact hI.stage)) (fun j o F h1 h2 => hI.fact j o F h1 h2 (hall j (List.getElem?_eq_some_iff.1 h1).1)) (hsz.trans hI.tsz.symm) hI.dfs.symm ?_ (fun j o d h1 h2 => by rw [hI.tsz]; exact hok.room j o d (by rw [ho]; exact h1) h2)
  intro d hd
  exact (hI.rest d (fun j o h1 _ => hd j o h1)).symm
 have hnoneReady : ∀ (listed : Array Bool), listed.size = l.length → Region.ready .any l.toArray listed = [] → ∀ i, i < l.length → listed.getD i false = true := by
  intro listed hls hr i
  induction i using Nat.strongRecOn with
  | ind i ih =>
   intro hi
   cases hc : listed.getD i false with
   | true => rfl
   | false =>
    exfalso
    have hil : i < listed.size := by omega
    have : i ∈ Region.ready .any l.toArray listed := mem_ready.2 ⟨by simpa [Array.getD, hil] using hc, l[i], by simp [hi], fun e he hb => ih e.on (hok.back i l[i] (by simp [hi]) e he hb) (by have := hok.back i l[i] (by simp [hi]) e he hb; omega)⟩
    rw [hr] at this; cases this
 intro fuel
 induction fuel with
 | zero =>
  intro listed a w ⟨u, _, hu, hul⟩ hI
  have hun : u = [] := List.eq_nil_of_length_eq_zero (by omega)
  subst hun
  have hall : ∀ i, i < l.length → listed.getD i false = true := fun i hi => by
   cases hc : listed.getD i false with
   | true => rfl
   | false => exact absurd ((hu i).2 ⟨hi, hc⟩) (by simp)
  refine ⟨?_, hend listed a w hI hall⟩
  rw [List.eq_nil_iff_forall_not_mem]
  intro i hi
  obtain ⟨h1, o, h2, _⟩ := mem_ready.1 hi
  have hil : i < l.length := by have := (Array.getElem?_eq_some_iff.1 h2).1; simpa using this
  have h3 := hall i hil
  have hls : i < listed.size := by rw [hI.lsz]; exact hil
  simp [Array.getD, hls] at h1 h3
  rw [h1] at h3; cases h3
 | succ fuel ih =>
  intro listed a w ⟨u, hnd, hu, hul⟩ hI
  refine ⟨fun hr => hend listed a w hI (hnoneReady listed hI.lsz hr), fun i hi => ?_⟩
  obtain ⟨h1, o, h2, h3⟩ := mem_ready.1 hi
  have hil : i < l.length := by have := (Array.getElem?_eq_some_iff.1 h2).1; simpa using this
  have hls : i < listed.size := by rw [hI.lsz]; exact hil
  have hf : listed.getD i false = false := by simpa [Array.getD, hls] using h1
  have h2' : l[i]? = some o := by rw [← ho]; exact h2
  obtain ⟨F, hF⟩ : ∃ F, Fs[i]? = some F := ⟨Fs[i]'(by omega), by simp [show i < Fs.length by omega]⟩
  obtain ⟨m, hm⟩ : ∃ m, ms[i]? = some m := ⟨ms[i]'(by rw [hmk.len]; exact hil), by simp [show i < ms.length by rw [hmk.len]; exact hil]⟩
  obtain ⟨lk, hop, hlk⟩ := hob i o F m h2' hF hm
  have hfacts : ∀ s ∈ o.looksAt l.toArray, (lk s).F (a.tmps.getD s undef) w := by
   intro s hs
   rcases hlk s with ⟨j, o', F', hj, hoj, hFj, hd, e⟩ | ⟨hno, e⟩
   ·rw [e]
    have hlst : listed.getD j false = true := by
     rcases hok.two i j o o' h2 (by rw [ho]; exact hoj) hj with ⟨ed, he, hb, hon⟩ | ⟨h4, _⟩
     ·rw [← hon]; exact h3 ed he hb
     ·exact absurd hs (h4 s hd)
    have := hI.fact j o' F' hoj hFj hlst
    simpa [hd] using this
   ·rw [e]
    refine hI.rest s (fun j o' hoj hl hd => ?_)
    rcases Nat.lt_trichotomy j i with hji | hji | hji
    ·exact hno j o' hji hoj hd
    ·subst hji; rw [hf] at hl; cases hl
    ·rcases hok.two j i o' o (by rw [ho]; exact hoj) h2 hji with ⟨ed, he, hb, hon⟩ | ⟨_, h4⟩
     ·have := hI.down j o' hoj hl ed he hb
      rw [hon, hf] at this; cases this
     ·exact h4 s hd hs
  have hstep : ∀ v w', F.F v w' → J (cntJ ms (listed.setIfInBounds i true)) w' → wpAny P .any l.toArray Q fuel (listed.setIfInBounds i true) (a.put o.dst v) w' := by
   intro v w' hFv hst
   have hroom : ∀ t, o.dst = some t → t < a.tmps.size := fun t ht => by rw [hI.tsz]; exact hok.room i o t h2 ht
   refine ih _ _ _ ⟨u.erase i, hnd.erase i, fun k => ?_, ?_⟩ ?_
   ·rw [hnd.mem_erase_iff, hu k]
    constructor
    ·rintro ⟨hki, hkl, hkf⟩
     exact ⟨hkl, by rw [getD_set_ne false (Ne.symm hki)]; exact hkf⟩
    ·rintro ⟨hkl, hkf⟩
     have hki : k ≠ i := by
      rintro rfl
      simp [Array.getD, hls] at hkf
     exact ⟨hki, hkl, by rw [getD_set_ne false (Ne.symm hki)] at hkf; exact hkf⟩
   ·have : i ∈ u := (hu i).2 ⟨hil, hf⟩
    rw [List.length_erase_of_mem this]; omega
   ·have hset : ∀ j, (listed.setIfInBounds i true).getD j false = true → j = i ∨ listed.getD j false = true := fun j hj => by
     by_cases e : j = i
     ·exact .inl e
     ·rw [getD_set_ne false (Ne.symm e)] at hj; exact .inr hj
    refine ⟨hst, ?_, ?_, by simpa using hI.lsz, ?_, ?_, ?_⟩
    ·rw [← hI.tsz]; cases o.dst <;> simp [Act.put]
    ·rw [← hI.dfs]; cases o.dst <;> simp [Act.put]
    ·intro j oj Fj hoj hFj hlj
     by_cases e : j = i
     ·subst e
      rw [h2'] at hoj; injection hoj with hoj; subst hoj
      rw [hF] at hFj; injection hFj with hFj; subst hFj
      cases hd : o.dst with
      | none => exact (hok.has j o h2 hd).elim
      | some d => simp only []; rw [zbs _ _ _ _ (by rw [← hd]; exact hroom)]; simpa using hFv
     ·have hl' := (hset j hlj).resolve_left e
      have h5 := hp Fj (List.mem_of_getElem? hFj) _ _ w' (hI.fact j oj Fj hoj hFj hl')
      cases hd : oj.dst with
      | none => simpa [hd] using h5
      | some d =>
       simp only [hd] at h5 ⊢
       rw [zbs _ _ _ _ hroom, if_neg (fun h6 => e (hok.dsts j i oj o d (by rw [ho]; exact hoj) h2 hd h6))]
       exact h5
    ·intro d hd
     have hne : o.dst ≠ some d := hd i o h2' (by simp [Array.getD, hls])
     rw [zbs _ _ _ _ hroom, if_neg hne]
     refine hI.rest d (fun j oj hoj hl => hd j oj hoj ?_)
     by_cases e : j = i
     ·subst e; simp [Array.getD, hls]
     ·rw [getD_set_ne false (Ne.symm e)]; exact hl
    ·intro j oj hoj hlj e he hb
     have key : listed.getD e.on false = true := by
      rcases hset j hlj with h4 | h4
      ·subst h4
       rw [h2'] at hoj; injection hoj with hoj; subst hoj
       exact h3 e he hb
      ·exact hI.down j oj hoj h4 e he hb
     have hne : e.on ≠ i := fun h => by rw [h, hf] at key; cases key
     rw [getD_set_ne false (Ne.symm hne)]; exact key
  unfold wpOp
  rw [h2]
  simp only []
  cases m with
  | none =>
   have hthis := hop (cntJ ms listed) w hI.stage a w (Below.refl _ _) hfacts
   have hc := zmx hmk hm listed
   split
   ·rename_i hw
    rw [if_pos hw] at hthis
    left
    refine Oper.wp_safe ?_
    have h5 := Oper.wp_mono (K' := wpAny P .any l.toArray Q fuel (listed.setIfInBounds i true)) (fun a' w' ⟨v, e, h6, h7⟩ => by rw [e]; exact hstep v w' h6 (by rw [hc]; exact hJ _ _ _ hI.stage h7)) hthis
    exact h5
   ·rename_i hw
    rw [if_neg hw] at hthis
    exact hstep undef w hthis (by rw [hc]; exact hI.stage)
  | some r =>
   have hbefore : ∀ j, j < i → (∃ q, ms[j]? = some (some q)) → listed.getD j false = true := fun j hj hq => by
    exact zh5 hI.down l.length i o (hmk.edge i j r o h2' hm hj hq) h2' h3
   have hbehind : ∀ j, i < j → (∃ q, ms[j]? = some (some q)) → listed.getD j false = false := fun j hj ⟨q, hq⟩ => by
    cases hl : listed.getD j false with
    | false => rfl
    | true =>
     have hjl : j < l.length := by have := (List.getElem?_eq_some_iff.1 hq).1; rw [hmk.len] at this; exact this
     have := zh5 hI.down l.length j l[j] (hmk.edge j i q l[j] (by simp [hjl]) hq hj ⟨r, hm⟩) (by simp [hjl]) (fun e he hb => hI.down j l[j] (by simp [hjl]) hl e he hb)
     rw [hf] at this; cases this
   obtain ⟨hc1, hc2⟩ := zmy hmk hm hls hf hbefore hbehind
   have hthis := hop a w (by rw [← hc1]; exact hI.stage) hfacts
   split
   ·rename_i hw
    rw [if_pos hw] at hthis
    left
    refine Oper.wp_safe ?_
    have h5 := Oper.wp_mono (K' := wpAny P .any l.toArray Q fuel (listed.setIfInBounds i true)) (fun a' w' ⟨v, e, h6, h7⟩ => by rw [e]; exact hstep v w' h6 (by rw [hc2]; exact h7)) hthis
    exact h5
   ·rename_i hw
    rw [if_neg hw] at hthis
    exact hstep undef w hthis.1 (by rw [hc2]; exact hthis.2)

theorem zeu {id n N : Nat} {l : List Oper} (J : Nat → World → Prop) (Fs : List SF) (ms : List (Option Nat)) {Q : Exit → Act → World → Prop} {a : Act} {w : World} (hm : P.follows .mixedOrders = true) (hok : okR n l.toArray = true) (hmk : marksOk l ms = true) (hN : N = cntA ms) (hsz : a.tmps.size = n)
    (hJ : ∀ k w w', J k w → Below w.heap.size w w' → J k w') (hp : ∀ F, F ∈ Fs → ∀ v w w', F.F v w → F.F v w') (h0 : J 0 w) (hob : obsJ P l.toArray J a l Fs ms []) (hfin : ∀ w', J N w' → fin (Q .normal) l Fs a w') : (Code.region id l.toArray true).wp P Q a w := by
 have h1 := zod (P := P) (J := J) l Fs ms [] [] [] rfl (fun s => .inr ⟨by simp, rfl⟩) hob
 have hnone : ∀ (m j : Nat), (Array.replicate m false).getD j false = false := fun m j => by unfold Array.getD; split <;> simp
 refine wp_region_any hm (zmz (zgv hok) (zh6 hmk) h1.1 hN hJ hp (fun k o F m h2 h3 h4 => ?_) hsz hfin _ _ a _ ⟨List.range l.length, List.nodup_range, fun i => ?_, by simp⟩ ⟨?_, hsz, rfl, by simp, ?_, fun _ _ => rfl, ?_⟩)
 ·obtain ⟨lk, h5, h6⟩ := h1.2 k o F m h2 h3 h4
  refine ⟨lk, h5, fun s => ?_⟩
  simpa using h6 s
 ·simp [Array.getD]
 ·have hc : cntJ ms (Array.replicate l.toArray.size false) = 0 := by
   unfold cntJ
   rw [List.length_eq_zero_iff, List.filter_eq_nil_iff]
   intro j _
   rw [hnone]; simp
  rw [hc]
  exact hJ _ _ _ h0 (Below.refl _ _).drew
 ·intro j o F h2 h3 h4
  simp [Array.getD] at h4
 ·intro j o h2 h4
  simp [Array.getD] at h4
theorem zkl {Fs : List Value} : ∀ F, F ∈ Fs.map sI → ∀ v w w', F.F v w → F.F v w' := fun F hF => by
 obtain ⟨e, _, rfl⟩ := List.mem_map.1 hF
 exact fun _ _ _ h => h
theorem zww {ops : Array Oper} {J : Nat → World → Prop} {o : Oper} {F : SF} {lk : Tmp → SF} {k : Nat} {f : FuncId} (hent : ∀ vs w, (callFunc f vs).run P w = .ok (.enter f vs) w) {xs : Array Operand} {vs : Array Value} {ts : Array TypeId} (hg : o.guard = none) (hop : o.op = .call { callee := .value (.func f), args := xs, argTypes := ts }) (hx : ∀ a w, Opd lk o a w → xs.map a.eval = vs)
    (hr : ∀ w, J k w → Calls P f vs w fun e w' => ∃ v, e = .returned v ∧ F.F v w' ∧ J (k + 1) w') : opJ P ops J o F lk (some k) := by
 intro a w hj hf
 rw [if_pos (by simp [Region.wanted, hg])]
 have hO : Opd lk o a w := fun s hs => by rw [← zc4]; exact hf s (List.mem_append_left _ hs)
 have hrun : (execOp a.eval o).run P w = .ok (.enter f vs) w := by
  have h1 := hx a w hO
  unfold execOp
  rw [hop]
  simp only [resolve]
  rw [show (Array.map (fun x => a.eval x) xs) = vs from h1]
  simp [invoke, Deferred.ofValue, Act.eval, hent]
 unfold Oper.wp
 rw [hrun]
 exact (hr w hj).mono fun e w' ⟨v, he, h1, h2⟩ => by subst he; exact ⟨v, rfl, h1, h2⟩
theorem zkm {ops : Array Oper} {J : Nat → World → Prop} {o : Oper} {F : SF} {lk : Tmp → SF} {k : Nat} {f : FuncId} (hent : ∀ vs w, (callFunc f vs).run P w = .ok (.enter f vs) w) {x : Operand} {v : Value} {ts : Array TypeId} (hg : o.guard = none) (hop : o.op = .call { callee := .value (.func f), args := #[x], argTypes := ts }) (hx : OpK lk x v)
    (hr : ∀ w, J k w → Calls P f #[v] w fun e w' => ∃ r, e = .returned r ∧ F.F r w' ∧ J (k + 1) w') : opJ P ops J o F lk (some k) :=
 zww hent hg hop (fun a w hf => by
  have h := hx.eval hf (by rw [hop]; simp [Op.operands, Call.operands])
  simp [h]) hr
theorem zm0 {ops : Array Oper} {J : Nat → World → Prop} {F : SF} {lk : Tmp → SF} {k : Nat} {dst : Option Tmp} {op : Op} {type : TypeId} {pos : String} {after : Array Edge} {j : Nat} {want : Bool} (d : Tmp) (hj : (ops[j]?).bind (·.dst) = some d) (hlk : lk d = sI (.bool want))
    (h : opJ P ops J ⟨dst, op, type, pos, after, none⟩ F lk (some k)) : opJ P ops J ⟨dst, op, type, pos, after, some (j, want)⟩ F lk (some k) := by
 intro a w hb hf
 have h1 := hf d (by unfold Oper.looksAt; refine List.mem_append_right _ ?_; simp [hj])
 rw [hlk] at h1
 have hw : Region.wanted (⟨dst, op, type, pos, after, some (j, want)⟩ : Oper) (yielded ops a.tmps) = true := by
  have h2 : a.tmps.getD d undef = .bool want := h1
  have h3 : a.tmps[d]? = some (.bool want) := by
   rw [zc4] at h2
   cases h4 : a.tmps[d]? with
   | none => rw [h4] at h2; cases h2
   | some v => rw [h4] at h2; simp at h2; rw [h2]
  simp [Region.wanted, yielded, hj, h3]
 rw [if_pos hw]
 have h5 := h a w hb (fun s hs => hf s (by
  unfold Oper.looksAt at hs ⊢
  simp only [List.append_nil] at hs
  exact List.mem_append_left _ hs))
 rw [if_pos (by rfl)] at h5
 exact h5
end
section
variable {P : Program}
def opJT (P : Program) (ops : Array Oper) (J : Nat → World → Prop) (R : World → World → Prop) (o : Oper) (F : SF) (lk : Tmp → SF) (m : Option Nat) : Prop := match m with
 | none => ∀ k w, J k w → opOb P ops w.heap.size w o F lk
 | some k => ∀ a w, J k w → (∀ s ∈ o.looksAt ops, (lk s).F (a.tmps.getD s undef) w) →
  if Region.wanted o (yielded ops a.tmps) = true then o.wp P a w (fun a' w' => ∃ v, a' = a.put o.dst v ∧ F.F v w' ∧ J (k + 1) w' ∧ R w w') (fun _ _ _ => False) else F.F undef w ∧ J (k + 1) w
def obsJT (P : Program) (ops : Array Oper) (J : Nat → World → Prop) (R : World → World → Prop) (a0 : Act) : List Oper → List SF → List (Option Nat) → List (Tmp × SF) → Prop
  | [], [], [], _ => True
  | o :: os, F :: Fs, m :: ms, E => opJT P ops J R o F (look a0 E) m ∧ obsJT P ops J R a0 os Fs ms (push o F E)
  | _, _, _, _ => False
theorem zm1 {ops : Array Oper} {J : Nat → World → Prop} {R : World → World → Prop} {a0 : Act} : ∀ (os : List Oper) (Fs : List SF) (ms : List (Option Nat)) (E : List (Tmp × SF)) (pre : List Oper) (Fp : List SF),
 pre.length = Fp.length →
 (∀ s, (∃ (j : Nat) (o : Oper) (F : SF), pre[j]? = some o ∧ Fp[j]? = some F ∧ o.dst = some s ∧ look a0 E s = F) ∨ ((∀ o ∈ pre, o.dst ≠ some s) ∧ look a0 E s = sI (a0.tmps.getD s undef))) →
 obsJT P ops J R a0 os Fs ms E → os.length = Fs.length ∧ ∀ k o F m, os[k]? = some o → Fs[k]? = some F → ms[k]? = some m → ∃ lk, opJT P ops J R o F lk m ∧
  ∀ s, (∃ (j : Nat) (o' : Oper) (F' : SF), j < pre.length + k ∧ (pre ++ os)[j]? = some o' ∧ (Fp ++ Fs)[j]? = some F' ∧ o'.dst = some s ∧ lk s = F') ∨ ((∀ (j : Nat) (o' : Oper), j < pre.length + k → (pre ++ os)[j]? = some o' → o'.dst ≠ some s) ∧ lk s = sI (a0.tmps.getD s undef))
 | [], [], [], _, _, _, _, _, _ => ⟨rfl, fun k o F m h => by simp at h⟩
 | [], [], _ :: _, _, _, _, _, _, h => h.elim
 | [], _ :: _, _, _, _, _, _, _, h => h.elim
 | _ :: _, [], _, _, _, _, _, _, h => h.elim
 | _ :: _, _ :: _, [], _, _, _, _, _, h => h.elim
 | o :: os, F :: Fs, c :: cs, E, pre, Fp, hl, hE, h => by
  obtain ⟨h1, h2⟩ := h
  have hE' : ∀ s, (∃ (j : Nat) (o' : Oper) (F' : SF), (pre ++ [o])[j]? = some o' ∧ (Fp ++ [F])[j]? = some F' ∧ o'.dst = some s ∧ look a0 (push o F E) s = F') ∨ ((∀ o' ∈ pre ++ [o], o'.dst ≠ some s) ∧ look a0 (push o F E) s = sI (a0.tmps.getD s undef)) := by
   intro s
   by_cases hd : o.dst = some s
   ·refine .inl ⟨pre.length, o, F, by simp, by simp [hl], hd, ?_⟩
    simp [push, hd, look]
   ·have hp : look a0 (push o F E) s = look a0 E s := by
     unfold push
     cases hdd : o.dst with
     | none => rfl
     | some d => simp only [look]; rw [if_neg (fun e => hd (by rw [hdd, e]))]
    rcases hE s with ⟨j, o', F', h3, h4, h5, h6⟩ | ⟨h3, h4⟩
    ·have hj := (List.getElem?_eq_some_iff.1 h3).1
     exact .inl ⟨j, o', F', by rw [List.getElem?_append_left hj]; exact h3, by rw [List.getElem?_append_left (by omega)]; exact h4, h5, by rw [hp]; exact h6⟩
    ·refine .inr ⟨fun o' ho' => ?_, by rw [hp]; exact h4⟩
     rcases List.mem_append.1 ho' with h5 | h5
     ·exact h3 o' h5
     ·simp at h5; subst h5; exact hd
  obtain ⟨hlen, hrest⟩ := zm1 os Fs cs (push o F E) (pre ++ [o]) (Fp ++ [F]) (by simp [hl]) hE' h2
  refine ⟨by simp [hlen], fun k ok Fk ck hk hF hc => ?_⟩
  cases k with
  | zero =>
   simp only [List.getElem?_cons_zero, Option.some.injEq] at hk hF hc
   subst hk hF hc
   refine ⟨look a0 E, h1, fun s => ?_⟩
   rcases hE s with ⟨j, o', F', h3, h4, h5, h6⟩ | ⟨h3, h4⟩
   ·have hj := (List.getElem?_eq_some_iff.1 h3).1
    exact .inl ⟨j, o', F', by omega, by rw [List.getElem?_append_left hj]; exact h3, by rw [List.getElem?_append_left (by omega)]; exact h4, h5, h6⟩
   ·refine .inr ⟨fun j o' hj ho' => ?_, h4⟩
    rw [List.getElem?_append_left (by omega)] at ho'
    exact h3 o' (List.mem_of_getElem? ho')
  | succ k =>
   simp only [List.getElem?_cons_succ] at hk hF hc
   obtain ⟨lk, h3, h4⟩ := hrest k ok Fk ck hk hF hc
   refine ⟨lk, h3, fun s => ?_⟩
   have e1 : pre ++ [o] ++ os = pre ++ o :: os := by simp
   have e2 : Fp ++ [F] ++ Fs = Fp ++ F :: Fs := by simp
   have e3 : (pre ++ [o]).length + k = pre.length + (k + 1) := by simp; omega
   have h5 := h4 s
   rw [e1, e2, e3] at h5
   exact h5
structure RInvJT (n : Nat) (l : List Oper) (Fs : List SF) (ms : List (Option Nat)) (J : Nat → World → Prop) (a0 : Act) (listed : Array Bool) (a : Act) (w : World) : Prop where
 stage : J (cntJ ms listed) w
 tsz : a.tmps.size = n
 dfs : a.defers = a0.defers
 lsz : listed.size = l.length + 1
 fact : ∀ (j : Nat) o F, l[j]? = some o → Fs[j]? = some F → listed.getD j false = true → F.F (match o.dst with | some d => a.tmps.getD d undef | none => undef) w
 rest : ∀ d, (∀ (j : Nat) o, l[j]? = some o → listed.getD j false = true → o.dst ≠ some d) → a.tmps.getD d undef = a0.tmps.getD d undef
 down : ∀ (j : Nat) o, l[j]? = some o → listed.getD j false = true → ∀ e ∈ o.after, Region.binds .any e = true → listed.getD e.on false = true
theorem zll {l : List Oper} {ol : Oper} {Fs : List SF} {n N : Nat} {ms : List (Option Nat)} {J : Nat → World → Prop} {R : World → World → Prop} {a0 : Act} {Q : Exit → Act → World → Prop} (hok : OkT n l ol) (hmk : MarksOk l ms) (hlen : l.length = Fs.length) (hN : N = cntA ms) (hJ : ∀ k w w', J k w → Below w.heap.size w w' → J k w') (hp : ∀ F, F ∈ Fs → ∀ v w w', F.F v w → R w w' → F.F v w')
    (hob : ∀ (k : Nat) o F m, l[k]? = some o → Fs[k]? = some F → ms[k]? = some m → ∃ lk, opJT P (l ++ [ol]).toArray J R o F lk m ∧
     ∀ s, (∃ (j : Nat) (o' : Oper) (F' : SF), j < k ∧ l[j]? = some o' ∧ Fs[j]? = some F' ∧ o'.dst = some s ∧ lk s = F') ∨ ((∀ (j : Nat) (o' : Oper), j < k → l[j]? = some o' → o'.dst ≠ some s) ∧ lk s = sI (a0.tmps.getD s undef)))
    (hsz : a0.tmps.size = n) (hfin : ∀ w, J N w → fin (fun a w => ol.wp P a w (Q .normal) Q) l Fs a0 w) :
    ∀ (fuel : Nat) (listed : Array Bool) (a : Act) (w : World), (∃ u : List Nat, u.Nodup ∧ (∀ i, i ∈ u ↔ i < l.length ∧ listed.getD i false = false) ∧ u.length < fuel) →
     RInvJT n l Fs ms J a0 listed a w → listed.getD l.length false = false → wpAny P .any (l ++ [ol]).toArray Q fuel listed a w := by
 have ho : ∀ (i : Nat), i < l.length → (l ++ [ol]).toArray[i]? = l[i]? := fun i hi => by simp [List.getElem?_append_left hi]
 have hol : (l ++ [ol]).toArray[l.length]? = some ol := by simp
 have hend : ∀ (listed : Array Bool) (a : Act) (w : World), RInvJT n l Fs ms J a0 listed a w → (∀ i, i < l.length → listed.getD i false = true) → ol.wp P a w (Q .normal) Q := by
  intro listed a w hI hall
  refine zfv l Fs a0 hlen (hfin w (by rw [hN, ← zoc hmk.len hall]; exact hI.stage)) (fun j o F h1 h2 => hI.fact j o F h1 h2 (hall j (List.getElem?_eq_some_iff.1 h1).1)) (hsz.trans hI.tsz.symm) hI.dfs.symm ?_ (fun j o d h1 h2 => by rw [hI.tsz]; exact hok.room j o d h1 h2)
  intro d hd
  exact (hI.rest d (fun j o h1 _ => hd j o h1)).symm
 have hone : ∀ (listed : Array Bool), listed.size = l.length + 1 → (∀ i, i ∈ Region.ready .any (l ++ [ol]).toArray listed → i = l.length) → listed.getD l.length false = false → ∀ i, i < l.length → listed.getD i false = true := by
  intro listed hls hr _ i
  induction i using Nat.strongRecOn with
  | ind i ih =>
   intro hi
   cases hc : listed.getD i false with
   | true => rfl
   | false =>
    exfalso
    have hil : i < listed.size := by omega
    have h1 : i ∈ Region.ready .any (l ++ [ol]).toArray listed := mem_ready.2 ⟨by simpa [Array.getD, hil] using hc, l[i], by rw [ho i hi]; simp [hi], fun e he hb => ih e.on (hok.back i l[i] (by simp [hi]) e he hb) (by have := hok.back i l[i] (by simp [hi]) e he hb; omega)⟩
    have := hr i h1; omega
 intro fuel
 induction fuel with
 | zero =>
  intro listed a w ⟨u, _, hu, hul⟩
  omega
 | succ fuel ih =>
  intro listed a w ⟨u, hnd, hu, hul⟩ hI hlast
  have hsz2 : listed.size = l.length + 1 := hI.lsz
  refine ⟨fun hr => ?_, fun i hi => ?_⟩
  ·exfalso
   have hall := hone listed hsz2 (fun i hi => by rw [hr] at hi; cases hi) hlast
   have : l.length ∈ Region.ready .any (l ++ [ol]).toArray listed := mem_ready.2 ⟨by simpa [Array.getD, hsz2] using hlast, ol, hol, fun e he hb => hall e.on (hok.lastBack e he hb)⟩
   rw [hr] at this; cases this
  obtain ⟨h1, o, h2, h3⟩ := mem_ready.1 hi
  by_cases hil : i < l.length
  case neg =>
   have hi2 : i < (l ++ [ol]).toArray.size := (Array.getElem?_eq_some_iff.1 h2).1
   have hil2 : i = l.length := by simp at hi2; omega
   subst hil2
   rw [hol] at h2; injection h2 with h2; subst h2
   have hall0 : ∀ d j, l.length - j = d → j < l.length → listed.getD j false = true := by
    intro d
    induction d using Nat.strongRecOn with
    | ind d ihd =>
     intro j hd hj
     rcases hok.lastAll j hj with ⟨e, he, hb, hon⟩ | ⟨k, ok, hjk, hk, e, he, hb, hon⟩
     ·rw [← hon]; exact h3 e he hb
     ·have hkl : k < l.length := (List.getElem?_eq_some_iff.1 hk).1
      rw [← hon]; exact hI.down k ok hk (ihd (l.length - k) (by omega) k rfl hkl) e he hb
   have hall : ∀ j, j < l.length → listed.getD j false = true := fun j hj => hall0 _ j rfl hj
   have hQ := hend listed a w hI hall
   unfold wpOp
   rw [hol]
   simp only []
   rw [if_pos (by simp [Region.wanted, hok.lastGuard])]
   left
   refine Oper.wp_mono (fun a' w' hq => ?_) hQ
   have hr0 : Region.ready .any (l ++ [ol]).toArray (listed.setIfInBounds l.length true) = [] := by
    rw [List.eq_nil_iff_forall_not_mem]
    intro k hk
    obtain ⟨hk1, ok, hk2, _⟩ := mem_ready.1 hk
    have hk3 : k < (l ++ [ol]).toArray.size := (Array.getElem?_eq_some_iff.1 hk2).1
    have hk4 : k < l.length + 1 := by simpa using hk3
    by_cases e : k = l.length
    ·subst e; simp [Array.getD, hsz2] at hk1
    ·have := hall k (by omega)
     rw [getD_set_ne true (Ne.symm e)] at hk1
     have hks : k < listed.size := by omega
     simp [Array.getD, hks] at hk1 this
     rw [hk1] at this; cases this
   cases fuel with
   | zero => exact ⟨hr0, hq⟩
   | succ f => exact ⟨fun _ => hq, fun k hk => by rw [hr0] at hk; cases hk⟩
  have hls : i < listed.size := by omega
  have hf : listed.getD i false = false := by simpa [Array.getD, hls] using h1
  have h2' : l[i]? = some o := by rw [← ho i hil]; exact h2
  obtain ⟨F, hF⟩ : ∃ F, Fs[i]? = some F := ⟨Fs[i]'(by omega), by simp [show i < Fs.length by omega]⟩
  obtain ⟨m, hm⟩ : ∃ m, ms[i]? = some m := ⟨ms[i]'(by rw [hmk.len]; exact hil), by simp [show i < ms.length by rw [hmk.len]; exact hil]⟩
  obtain ⟨lk, hop, hlk⟩ := hob i o F m h2' hF hm
  have hfacts : ∀ s ∈ o.looksAt (l ++ [ol]).toArray, (lk s).F (a.tmps.getD s undef) w := by
   intro s hs
   rcases hlk s with ⟨j, o', F', hj, hoj, hFj, hd, e⟩ | ⟨hno, e⟩
   ·rw [e]
    have hlst : listed.getD j false = true := by
     rcases hok.two i j o o' h2' hoj hj with ⟨ed, he, hb, hon⟩ | ⟨h4, _⟩
     ·rw [← hon]; exact h3 ed he hb
     ·exact absurd hs (h4 s hd)
    have := hI.fact j o' F' hoj hFj hlst
    simpa [hd] using this
   ·rw [e]
    refine hI.rest s (fun j o' hoj hl hd => ?_)
    rcases Nat.lt_trichotomy j i with hji | hji | hji
    ·exact hno j o' hji hoj hd
    ·subst hji; rw [hf] at hl; cases hl
    ·rcases hok.two j i o' o hoj h2' hji with ⟨ed, he, hb, hon⟩ | ⟨_, h4⟩
     ·have := hI.down j o' hoj hl ed he hb
      rw [hon, hf] at this; cases this
     ·exact h4 s hd hs
  have hstep : ∀ v w', F.F v w' → (Below w.heap.size w w' ∨ R w w') → J (cntJ ms (listed.setIfInBounds i true)) w' → wpAny P .any (l ++ [ol]).toArray Q fuel (listed.setIfInBounds i true) (a.put o.dst v) w' := by
   intro v w' hFv hbel hst
   have hroom : ∀ t, o.dst = some t → t < a.tmps.size := fun t ht => by rw [hI.tsz]; exact hok.room i o t h2' ht
   refine ih _ _ _ ⟨u.erase i, hnd.erase i, fun k => ?_, ?_⟩ ?_ (by rw [getD_set_ne false (show i ≠ l.length by omega)]; exact hlast)
   ·rw [hnd.mem_erase_iff, hu k]
    constructor
    ·rintro ⟨hki, hkl, hkf⟩
     exact ⟨hkl, by rw [getD_set_ne false (Ne.symm hki)]; exact hkf⟩
    ·rintro ⟨hkl, hkf⟩
     have hki : k ≠ i := by
      rintro rfl
      simp [Array.getD, hls] at hkf
     exact ⟨hki, hkl, by rw [getD_set_ne false (Ne.symm hki)] at hkf; exact hkf⟩
   ·have hiu : i ∈ u := (hu i).2 ⟨hil, hf⟩
    have := List.length_pos_of_mem hiu
    rw [List.length_erase_of_mem hiu]; omega
   ·have hset : ∀ j, (listed.setIfInBounds i true).getD j false = true → j = i ∨ listed.getD j false = true := fun j hj => by
     by_cases e : j = i
     ·exact .inl e
     ·rw [getD_set_ne false (Ne.symm e)] at hj; exact .inr hj
    refine ⟨hst, ?_, ?_, by simpa using hI.lsz, ?_, ?_, ?_⟩
    ·rw [← hI.tsz]; cases o.dst <;> simp [Act.put]
    ·rw [← hI.dfs]; cases o.dst <;> simp [Act.put]
    ·intro j oj Fj hoj hFj hlj
     by_cases e : j = i
     ·subst e
      rw [h2'] at hoj; injection hoj with hoj; subst hoj
      rw [hF] at hFj; injection hFj with hFj; subst hFj
      cases hd : o.dst with
      | none => exact (hok.has j o h2' hd).elim
      | some d => simp only []; rw [zbs _ _ _ _ (by rw [← hd]; exact hroom)]; simpa using hFv
     ·have hl' := (hset j hlj).resolve_left e
      have h5 := (show ∀ x, Fj.F x w → Fj.F x w' from fun x hx => by
       rcases hbel with h9 | h9
       ·exact Fj.st _ _ _ hx h9
       ·exact hp Fj (List.mem_of_getElem? hFj) _ _ w' hx h9) _ (hI.fact j oj Fj hoj hFj hl')
      cases hd : oj.dst with
      | none => simpa [hd] using h5
      | some d =>
       simp only [hd] at h5 ⊢
       rw [zbs _ _ _ _ hroom, if_neg (fun h6 => e (hok.dsts j i oj o d hoj h2' hd h6))]
       exact h5
    ·intro d hd
     have hne : o.dst ≠ some d := hd i o h2' (by simp [Array.getD, hls])
     rw [zbs _ _ _ _ hroom, if_neg hne]
     refine hI.rest d (fun j oj hoj hl => hd j oj hoj ?_)
     by_cases e : j = i
     ·subst e; simp [Array.getD, hls]
     ·rw [getD_set_ne false (Ne.symm e)]; exact hl
    ·intro j oj hoj hlj e he hb
     have key : listed.getD e.on false = true := by
      rcases hset j hlj with h4 | h4
      ·subst h4
       rw [h2'] at hoj; injection hoj with hoj; subst hoj
       exact h3 e he hb
      ·exact hI.down j oj hoj h4 e he hb
     have hne : e.on ≠ i := fun h => by rw [h, hf] at key; cases key
     rw [getD_set_ne false (Ne.symm hne)]; exact key
  unfold wpOp
  rw [h2]
  simp only []
  cases m with
  | none =>
   have hthis := hop (cntJ ms listed) w hI.stage a w (Below.refl _ _) hfacts
   have hc := zmx hmk hm listed
   split
   ·rename_i hw
    rw [if_pos hw] at hthis
    left
    refine Oper.wp_safe ?_
    have h5 := Oper.wp_mono (K' := wpAny P .any (l ++ [ol]).toArray Q fuel (listed.setIfInBounds i true)) (fun a' w' ⟨v, e, h6, h7⟩ => by rw [e]; exact hstep v w' h6 (.inl h7) (by rw [hc]; exact hJ _ _ _ hI.stage h7)) hthis
    exact h5
   ·rename_i hw
    rw [if_neg hw] at hthis
    exact hstep undef w hthis (.inl (Below.refl _ _)) (by rw [hc]; exact hI.stage)
  | some r =>
   have hbefore : ∀ j, j < i → (∃ q, ms[j]? = some (some q)) → listed.getD j false = true := fun j hj hq => by
    exact zh5 hI.down l.length i o (hmk.edge i j r o h2' hm hj hq) h2' h3
   have hbehind : ∀ j, i < j → (∃ q, ms[j]? = some (some q)) → listed.getD j false = false := fun j hj ⟨q, hq⟩ => by
    cases hl : listed.getD j false with
    | false => rfl
    | true =>
     have hjl : j < l.length := by have := (List.getElem?_eq_some_iff.1 hq).1; rw [hmk.len] at this; exact this
     have := zh5 hI.down l.length j l[j] (hmk.edge j i q l[j] (by simp [hjl]) hq hj ⟨r, hm⟩) (by simp [hjl]) (fun e he hb => hI.down j l[j] (by simp [hjl]) hl e he hb)
     rw [hf] at this; cases this
   obtain ⟨hc1, hc2⟩ := zmy hmk hm hls hf hbefore hbehind
   have hthis := hop a w (by rw [← hc1]; exact hI.stage) hfacts
   split
   ·rename_i hw
    rw [if_pos hw] at hthis
    left
    refine Oper.wp_safe ?_
    have h5 := Oper.wp_mono (K' := wpAny P .any (l ++ [ol]).toArray Q fuel (listed.setIfInBounds i true)) (fun a' w' ⟨v, e, h6, h7, h8⟩ => by rw [e]; exact hstep v w' h6 (.inr h8) (by rw [hc2]; exact h7)) hthis
    exact h5
   ·rename_i hw
    rw [if_neg hw] at hthis
    exact hstep undef w hthis.1 (.inl (Below.refl _ _)) (by rw [hc2]; exact hthis.2)

theorem zjh {id n N : Nat} {l : List Oper} {ol : Oper} (J : Nat → World → Prop) (R : World → World → Prop) (Fs : List SF) (ms : List (Option Nat)) {Q : Exit → Act → World → Prop} {a : Act} {w : World} (hm : P.follows .mixedOrders = true) (hok : okT n l ol = true) (hmk : marksOk l ms = true) (hN : N = cntA ms) (hsz : a.tmps.size = n)
    (hJ : ∀ k w w', J k w → Below w.heap.size w w' → J k w') (hp : ∀ F, F ∈ Fs → ∀ v w w', F.F v w → R w w' → F.F v w') (h0 : J 0 w) (hob : obsJT P (l ++ [ol]).toArray J R a l Fs ms []) (hfin : ∀ w', J N w' → fin (fun a w => ol.wp P a w (Q .normal) Q) l Fs a w') : (Code.region id (l ++ [ol]).toArray true).wp P Q a w := by
 have h1 := zm1 (P := P) (J := J) (R := R) l Fs ms [] [] [] rfl (fun s => .inr ⟨by simp, rfl⟩) hob
 have hnone : ∀ (m j : Nat), (Array.replicate m false).getD j false = false := fun m j => by unfold Array.getD; split <;> simp
 refine wp_region_any hm (zll (R := R) (zlv hok) (zh6 hmk) h1.1 hN hJ hp (fun k o F m h2 h3 h4 => ?_) hsz hfin _ _ a _ ⟨List.range l.length, List.nodup_range, fun i => ?_, by simp⟩ ⟨?_, hsz, rfl, by simp, ?_, fun _ _ => rfl, ?_⟩ (by simp [Array.getD]))
 ·obtain ⟨lk, h5, h6⟩ := h1.2 k o F m h2 h3 h4
  refine ⟨lk, h5, fun s => ?_⟩
  simpa using h6 s
 ·simp [Array.getD]
 ·have hc : cntJ ms (Array.replicate (l ++ [ol]).toArray.size false) = 0 := by
   unfold cntJ
   rw [List.length_eq_zero_iff, List.filter_eq_nil_iff]
   intro j _
   rw [hnone]; simp
  rw [hc]
  exact hJ _ _ _ h0 (Below.refl _ _).drew
 ·intro j o F h2 h3 h4
  simp [Array.getD] at h4
 ·intro j o h2 h4
  simp [Array.getD] at h4
theorem zu8 {ops : Array Oper} {J : Nat → World → Prop} {R : World → World → Prop} {o : Oper} {F : SF} {lk : Tmp → SF} {k : Nat} {f : FuncId} (hent : ∀ vs w, (callFunc f vs).run P w = .ok (.enter f vs) w) {xs : Array Operand} {vs : Array Value} {ts : Array TypeId} (hg : o.guard = none) (hop : o.op = .call { callee := .value (.func f), args := xs, argTypes := ts }) (hx : ∀ a w, Opd lk o a w → xs.map a.eval = vs)
    (hr : ∀ w, J k w → Calls P f vs w fun e w' => ∃ v, e = .returned v ∧ F.F v w' ∧ J (k + 1) w' ∧ R w w') : opJT P ops J R o F lk (some k) := by
 intro a w hj hf
 rw [if_pos (by simp [Region.wanted, hg])]
 have hO : Opd lk o a w := fun s hs => by rw [← zc4]; exact hf s (List.mem_append_left _ hs)
 have hrun : (execOp a.eval o).run P w = .ok (.enter f vs) w := by
  have h1 := hx a w hO
  unfold execOp
  rw [hop]
  simp only [resolve]
  rw [show (Array.map (fun x => a.eval x) xs) = vs from h1]
  simp [invoke, Deferred.ofValue, Act.eval, hent]
 unfold Oper.wp
 rw [hrun]
 exact (hr w hj).mono fun e w' ⟨v, he, h1, h2⟩ => by subst he; exact ⟨v, rfl, h1, h2⟩
theorem zf5 {ops : Array Oper} {J : Nat → World → Prop} {R : World → World → Prop} {o : Oper} {F : SF} {lk : Tmp → SF} {k : Nat} {f : FuncId} (hent : ∀ vs w, (callFunc f vs).run P w = .ok (.enter f vs) w) {x y : Operand} {v u : Value} {ts : Array TypeId} (hg : o.guard = none) (hop : o.op = .call { callee := .value (.func f), args := #[x, y], argTypes := ts }) (hx : OpK lk x v) (hy : OpK lk y u)
    (hr : ∀ w, J k w → Calls P f #[v, u] w fun e w' => ∃ r, e = .returned r ∧ F.F r w' ∧ J (k + 1) w' ∧ R w w') : opJT P ops J R o F lk (some k) :=
 zu8 hent hg hop (fun a w hf => by
  have h := hx.eval hf (by rw [hop]; simp [Op.operands, Call.operands])
  have h' := hy.eval hf (by rw [hop]; simp [Op.operands, Call.operands])
  simp [h, h']) hr
end
end Go.Proofs.YtomilckcgmhfcaaDoor
