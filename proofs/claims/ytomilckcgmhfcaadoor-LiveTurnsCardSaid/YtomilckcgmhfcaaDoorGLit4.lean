/- Lemmas that the proof stands on. -/
import Derived.Test.YtomilckcgmhfcaaDoorGLit3
import Derived.Laws.CopyRow
import Derived.Laws.CopyOwn
namespace Go.Proofs.YtomilckcgmhfcaaDoor
set_option maxRecDepth 40000
set_option maxHeartbeats 64000000
open Go.RowKit

section
variable {P : Program}
theorem unlisted {listed : Array Bool} {k : Nat} (h : listed.getD k false = false) (hk : k < listed.size) : listed.getD k true = false := by
 simpa [Array.getD, hk] using h
def seqWp (P : Program) (Q : Exit → Act → World → Prop) : List Oper → Act → World → Prop
  | [], a, w => Q .normal a w
  | o :: os, a, w => o.wp P a w (seqWp P Q os) Q
def okTl (k j : Nat) : List Oper → Bool
  | [] => true
  | o :: os => o.guard.isNone && o.after.all (fun e => !Region.binds .any e || decide (e.on < k + j)) && (decide (j = 0) || o.after.any (fun e => Region.binds .any e && e.on == k + j - 1)) && okTl k (j + 1) os
theorem zgz : ∀ (tl : List Oper) (k j : Nat), okTl k (j + 1) tl = true → okTl (k + 1) j tl = true
  | [], _, _, _ => rfl
  | o :: os, k, j, h => by
   simp only [okTl, Bool.and_eq_true] at h ⊢
   rw [show k + 1 + j = k + (j + 1) by omega]
   refine ⟨⟨h.1.1, ?_⟩, zgz os k (j + 1) h.2⟩
   have h3 := h.1.2
   rw [Bool.or_eq_true] at h3 ⊢
   rcases h3 with h3 | h3
   ·simp at h3
   ·exact .inr h3
theorem zif : ∀ (tl : List Oper) (k j : Nat), okTl k j tl = true → ∀ (i : Nat) o, tl[i]? = some o → o.guard = none ∧ (∀ e ∈ o.after, Region.binds .any e = true → e.on < k + j + i) ∧ (0 < j + i → ∃ e ∈ o.after, Region.binds .any e = true ∧ e.on = k + j + i - 1)
  | [], _, _, _, i, o, h => by simp at h
  | o :: os, k, j, h, i, o', hi => by
   simp only [okTl, Bool.and_eq_true] at h
   obtain ⟨⟨⟨h1, h2⟩, h3⟩, h4⟩ := h
   cases i with
   | zero =>
    simp at hi; subst hi
    refine ⟨by simpa using h1, fun e he hb => ?_, ?_⟩
    ·rw [Array.all_eq_true_iff_forall_mem] at h2
     have := h2 e he
     simpa [hb] using this
    ·intro hj0
     rw [Bool.or_eq_true] at h3
     have h3 := h3.resolve_left (by simp; omega)
     rw [Array.any_eq_true] at h3
     obtain ⟨x, hx, h7⟩ := h3
     simp only [Bool.and_eq_true, beq_iff_eq] at h7
     exact ⟨o.after[x], Array.getElem_mem hx, h7⟩
   | succ i =>
    simp at hi
    obtain ⟨g1, g2, g6⟩ := zif os k (j + 1) h4 i o' hi
    obtain ⟨e, g3, g4, g5⟩ := g6 (by omega)
    exact ⟨g1, fun e he hb => by have := g2 e he hb; omega, fun _ => ⟨e, g3, g4, by omega⟩⟩
theorem zi3 {ops : Array Oper} {Q : Exit → Act → World → Prop} : ∀ (tl : List Oper) (k fuel : Nat) (listed : Array Bool) (a : Act) (w : World), ops.size = k + tl.length → (∀ (j : Nat) o, tl[j]? = some o → ops[k + j]? = some o) →
 listed.size = k + tl.length → (∀ i, i < k → listed.getD i false = true) → (∀ i, k ≤ i → listed.getD i false = false) → okTl k 0 tl = true → tl.length ≤ fuel → seqWp P Q tl a w → wpAny P .any ops Q fuel listed a w
 | [], k, fuel, listed, a, w, hsz, _, hls, hall, _, _, _, hq => by
  have hr0 : Region.ready .any ops listed = [] := by
   rw [List.eq_nil_iff_forall_not_mem]
   intro i hi
   obtain ⟨h1, o, h2, _⟩ := mem_ready.1 hi
   have h3 : i < ops.size := (Array.getElem?_eq_some_iff.1 h2).1
   simp only [List.length_nil, Nat.add_zero] at hsz hls
   have h4 := hall i (by omega)
   have h5 : i < listed.size := by omega
   simp [Array.getD, h5] at h1 h4
   rw [h1] at h4; cases h4
  cases fuel with
  | zero => exact ⟨hr0, hq⟩
  | succ f => exact ⟨fun _ => hq, fun i hi => by rw [hr0] at hi; cases hi⟩
 | o :: os, k, 0, _, _, _, _, _, _, _, _, _, hf, _ => by simp at hf
 | o :: os, k, fuel + 1, listed, a, w, hsz, hops, hls, hall, hno, hok, hf, hq => by
  have hok' := hok
  simp only [okTl, Bool.and_eq_true] at hok
  obtain ⟨⟨⟨h1, h2⟩, h3⟩, h4⟩ := hok
  have hk : ops[k]? = some o := hops 0 o rfl
  simp only [List.length_cons] at hsz hls hf
  refine ⟨fun hr => ?_, fun i hi => ?_⟩
  ·exfalso
   have h5 : k < listed.size := by omega
   have : k ∈ Region.ready .any ops listed := mem_ready.2 ⟨by have := hno k lR; simpa [Array.getD, h5] using this, o, hk, fun e he hb => hall e.on (by
    rw [Array.all_eq_true_iff_forall_mem] at h2
    have := h2 e he
    simpa [hb] using this)⟩
   rw [hr] at this; cases this
  ·obtain ⟨g1, o', g2, g3⟩ := mem_ready.1 hi
   have g4 : i < ops.size := (Array.getElem?_eq_some_iff.1 g2).1
   have hik : i = k := by
    rcases Nat.lt_trichotomy i k with h | h | h
    ·have h5 := hall i h
     have h6 : i < listed.size := by omega
     simp [Array.getD, h6] at g1 h5
     rw [g1] at h5; cases h5
    ·exact h
    ·exfalso
     have hj : ∃ o2, (o :: os)[i - k]? = some o2 := ⟨(o :: os)[i - k]'(by simp; omega), by simp [show i - k < os.length + 1 by omega]⟩
     obtain ⟨o2, hj⟩ := hj
     have h7 := hops _ _ hj
     rw [show k + (i - k) = i by omega, g2] at h7
     injection h7 with h7; subst h7
     obtain ⟨_, _, hx⟩ := zif _ k 0 hok' _ _ hj
     obtain ⟨e, he, hb, hon⟩ := hx (by omega)
     have h8 := g3 e he hb
     rw [hno e.on (by omega)] at h8; cases h8
   subst hik
   rw [hk] at g2; injection g2 with g2; subst g2
   unfold wpOp
   rw [hk]
   simp only []
   rw [if_pos (by
    have : o.guard = none := by simpa using h1
    simp [Region.wanted, this])]
   left
   refine Oper.wp_mono (fun a' w' hq' => ?_) hq
   have h5 : i < listed.size := by omega
   refine zi3 os (i + 1) fuel _ a' w' (by omega) (fun j o2 hj => by rw [show i + 1 + j = i + (j + 1) by omega]; exact hops (j + 1) o2 hj) (by simp; omega) (fun k hk => ?_) (fun k hk => ?_) (zgz os i 0 h4) (by omega) hq'
   ·by_cases e : k = i
    ·subst e; simp [Array.getD, h5]
    ·rw [getD_set_ne false (Ne.symm e)]; exact hall k (by omega)
   ·rw [getD_set_ne false (show i ≠ k by omega)]; exact hno k (by omega)

structure RInvS (n : Nat) (l tl : List Oper) (Fs : List SF) (B : Nat) (w0 : World) (a0 : Act) (listed : Array Bool) (a : Act) (w : World) : Prop where
 bel : Below B w0 w
 tsz : a.tmps.size = n
 dfs : a.defers = a0.defers
 lsz : listed.size = l.length + 1 + tl.length
 fact : ∀ (j : Nat) o F, l[j]? = some o → Fs[j]? = some F → listed.getD j false = true → F.F (match o.dst with | some d => a.tmps.getD d undef | none => undef) w
 rest : ∀ d, (∀ (j : Nat) o, l[j]? = some o → listed.getD j false = true → o.dst ≠ some d) → a.tmps.getD d undef = a0.tmps.getD d undef
 down : ∀ (j : Nat) o, l[j]? = some o → listed.getD j false = true → ∀ e ∈ o.after, Region.binds .any e = true → listed.getD e.on false = true

def okS (n : Nat) (l : List Oper) (ol : Oper) (tl : List Oper) : Bool :=
 okR n l.toArray && ol.guard.isNone && ol.after.all (fun e => !Region.binds .any e || decide (e.on < l.length)) && (List.range l.length).all (fun i => (ol.after.any fun e => Region.binds .any e && e.on == i) || (List.range l.length).any (fun k => decide (i < k) && match l[k]? with | some ok => ok.after.any (fun e => Region.binds .any e && e.on == i) | none => false)) &&
   l.all (fun o => match o.guard with | some (j, _) => decide (j < l.length) | none => true) && (match ol.op with | .select .. => false | _ => true) && okTl l.length 1 tl
structure OkS (n : Nat) (l : List Oper) (ol : Oper) (tl : List Oper) : Prop where
 back : ∀ (i : Nat) oi, l[i]? = some oi → ∀ e ∈ oi.after, Region.binds .any e = true → e.on < i
 room : ∀ (i : Nat) oi d, l[i]? = some oi → oi.dst = some d → d < n
 has : ∀ (i : Nat) oi, l[i]? = some oi → oi.dst ≠ none
 two : ∀ (i j : Nat) oi oj, l[i]? = some oi → l[j]? = some oj → j < i → (∃ e ∈ oi.after, Region.binds .any e = true ∧ e.on = j) ∨ ((∀ d, oj.dst = some d → d ∉ oi.looksAt (l ++ ol :: tl).toArray) ∧ (∀ d, oi.dst = some d → d ∉ oj.looksAt (l ++ ol :: tl).toArray))
 dsts : ∀ (i j : Nat) oi oj d, l[i]? = some oi → l[j]? = some oj → oi.dst = some d → oj.dst = some d → i = j
 lastGuard : ol.guard = none
 lastBack : ∀ e ∈ ol.after, Region.binds .any e = true → e.on < l.length
 lastAll : ∀ j, j < l.length → (∃ e ∈ ol.after, Region.binds .any e = true ∧ e.on = j) ∨ ∃ k ok, j < k ∧ l[k]? = some ok ∧ ∃ e ∈ ok.after, Region.binds .any e = true ∧ e.on = j
 tail : okTl l.length 1 tl = true
theorem zhi {l tl : List Oper} {ol o : Oper} (ho : o ∈ l) (hg : l.all (fun o => match o.guard with | some (j, _) => decide (j < l.length) | none => true) = true) : o.looksAt (l ++ ol :: tl).toArray = o.looksAt l.toArray := by
 unfold Oper.looksAt
 congr 1
 have h := List.all_eq_true.1 hg o ho
 cases hgd : o.guard with
 | none => rfl
 | some p =>
  obtain ⟨j, b⟩ := p
  simp only [hgd, decide_eq_true_eq] at h
  simp [List.getElem?_append_left h]
theorem zrn {n : Nat} {l tl : List Oper} {ol : Oper} (h : okS n l ol tl = true) : OkS n l ol tl := by
 unfold okS at h
 simp only [Bool.and_eq_true] at h
 obtain ⟨⟨⟨⟨⟨⟨h1, h2⟩, h3⟩, h4⟩, h5⟩, h6⟩, h7⟩ := h
 have htl := h7
 clear h7
 have hr := zgv h1
 have hm : ∀ (i : Nat) oi, l[i]? = some oi → l.toArray[i]? = some oi := fun i oi h => by simpa using h
 refine ⟨fun i oi h => hr.back i oi (hm i oi h), fun i oi d h => hr.room i oi d (hm i oi h), fun i oi h => hr.has i oi (hm i oi h), ?_, fun i j oi oj d h k => hr.dsts i j oi oj d (hm i oi h) (hm j oj k), by simpa using h2, ?_, ?_, htl⟩
 ·intro i j oi oj hi hj hji
  rw [zhi (List.mem_of_getElem? hi) h5, zhi (List.mem_of_getElem? hj) h5]
  exact hr.two i j oi oj (hm i oi hi) (hm j oj hj) hji
 ·intro e he hb
  rw [Array.all_eq_true_iff_forall_mem] at h3
  simpa [hb] using h3 e he
 ·intro j hj
  rw [List.all_eq_true] at h4
  have := h4 j (List.mem_range.2 hj)
  rw [Bool.or_eq_true] at this
  rcases this with this | this
  ·rw [Array.any_eq_true] at this
   obtain ⟨x, hx, h7⟩ := this
   simp only [Bool.and_eq_true, beq_iff_eq] at h7
   exact .inl ⟨ol.after[x], Array.getElem_mem hx, h7⟩
  ·rw [List.any_eq_true] at this
   obtain ⟨k, _, h8⟩ := this
   simp only [Bool.and_eq_true, decide_eq_true_eq] at h8
   obtain ⟨hjk, h9⟩ := h8
   cases hk : l[k]? with
   | none => rw [hk] at h9; cases h9
   | some ok =>
    rw [hk] at h9
    simp only [] at h9
    rw [Array.any_eq_true] at h9
    obtain ⟨x, hx, h7⟩ := h9
    simp only [Bool.and_eq_true, beq_iff_eq] at h7
    exact .inr ⟨k, ok, hjk, hk, ok.after[x], Array.getElem_mem hx, h7⟩
theorem zly {l tl : List Oper} {ol : Oper} {Fs : List SF} {n B : Nat} {w0 : World} {a0 : Act} {Q : Exit → Act → World → Prop} (hok : OkS n l ol tl) (hlen : l.length = Fs.length) (hB : B ≤ w0.heap.size)
    (hob : ∀ (k : Nat) o F, l[k]? = some o → Fs[k]? = some F → ∃ lk, opOb P (l ++ ol :: tl).toArray B w0 o F lk ∧
     ∀ s, (∃ (j : Nat) (o' : Oper) (F' : SF), j < k ∧ l[j]? = some o' ∧ Fs[j]? = some F' ∧ o'.dst = some s ∧ lk s = F') ∨ ((∀ (j : Nat) (o' : Oper), j < k → l[j]? = some o' → o'.dst ≠ some s) ∧ lk s = sI (a0.tmps.getD s undef)))
    (hsz : a0.tmps.size = n) (hfin : ∀ w, Below B w0 w → fin (fun a w => ol.wp P a w (seqWp P Q tl) Q) l Fs a0 w) :
    ∀ (fuel : Nat) (listed : Array Bool) (a : Act) (w : World), (∃ u : List Nat, u.Nodup ∧ (∀ i, i ∈ u ↔ i < l.length ∧ listed.getD i false = false) ∧ u.length + tl.length < fuel) →
     RInvS n l tl Fs B w0 a0 listed a w → (∀ k, l.length ≤ k → listed.getD k false = false) → wpAny P .any (l ++ ol :: tl).toArray Q fuel listed a w := by
 have ho : ∀ (i : Nat), i < l.length → (l ++ ol :: tl).toArray[i]? = l[i]? := fun i hi => by simp [List.getElem?_append_left hi]
 have hol : (l ++ ol :: tl).toArray[l.length]? = some ol := by simp
 have hend : ∀ (listed : Array Bool) (a : Act) (w : World), RInvS n l tl Fs B w0 a0 listed a w → (∀ i, i < l.length → listed.getD i false = true) → ol.wp P a w (seqWp P Q tl) Q := by
  intro listed a w hI hall
  refine zfv l Fs a0 hlen (hfin w hI.bel) (fun j o F h1 h2 => hI.fact j o F h1 h2 (hall j (List.getElem?_eq_some_iff.1 h1).1)) (hsz.trans hI.tsz.symm) hI.dfs.symm ?_ (fun j o d h1 h2 => by rw [hI.tsz]; exact hok.room j o d h1 h2)
  intro d hd
  exact (hI.rest d (fun j o h1 _ => hd j o h1)).symm
 have hone : ∀ (listed : Array Bool), listed.size = l.length + 1 + tl.length → (∀ i, i ∈ Region.ready .any (l ++ ol :: tl).toArray listed → l.length ≤ i) → ∀ i, i < l.length → listed.getD i false = true := by
  intro listed hls hr i
  induction i using Nat.strongRecOn with
  | ind i ih =>
   intro hi
   cases hc : listed.getD i false with
   | true => rfl
   | false =>
    exfalso
    have hil : i < listed.size := by omega
    have h1 : i ∈ Region.ready .any (l ++ ol :: tl).toArray listed := mem_ready.2 ⟨by simpa [Array.getD, hil] using hc, l[i], by rw [ho i hi]; simp [hi], fun e he hb => ih e.on (hok.back i l[i] (by simp [hi]) e he hb) (by have := hok.back i l[i] (by simp [hi]) e he hb; omega)⟩
    have := hr i h1; omega
 intro fuel
 induction fuel with
 | zero =>
  intro listed a w ⟨u, _, hu, hul⟩
  omega
 | succ fuel ih =>
  intro listed a w ⟨u, hnd, hu, hul⟩ hI hlast
  have hsz2 : listed.size = l.length + 1 + tl.length := hI.lsz
  refine ⟨fun hr => ?_, fun i hi => ?_⟩
  ·exfalso
   have hall := hone listed hsz2 (fun i hi => by rw [hr] at hi; cases hi)
   have : l.length ∈ Region.ready .any (l ++ ol :: tl).toArray listed := mem_ready.2 ⟨unlisted (hlast l.length lR) (by omega), ol, hol, fun e he hb => hall e.on (hok.lastBack e he hb)⟩
   rw [hr] at this; cases this
  obtain ⟨h1, o, h2, h3⟩ := mem_ready.1 hi
  by_cases hil : i < l.length
  case neg =>
   have hi2 : i < (l ++ ol :: tl).toArray.size := (Array.getElem?_eq_some_iff.1 h2).1
   have hil2 : i = l.length := by
    rcases Nat.lt_or_ge l.length i with hgt | hle
    ·exfalso
     have hi3 : i < l.length + (1 + tl.length) := by simp at hi2; omega
     have ho2 : tl[i - l.length - 1]? = some o := by
      have h9 := h2
      simp only [List.getElem?_toArray] at h9
      rw [List.getElem?_append_right (by omega), show i - l.length = (i - l.length - 1) + 1 by omega, List.getElem?_cons_succ] at h9
      exact h9
     obtain ⟨_, _, hx⟩ := zif tl l.length 1 hok.tail _ _ ho2
     obtain ⟨e, he, hb, hon⟩ := hx (by omega)
     have h9 := h3 e he hb
     rw [hlast e.on (by omega)] at h9; cases h9
    ·omega
   subst hil2
   rw [hol] at h2; injection h2 with h2; subst h2
   have hall0 : ∀ d j, l.length - j = d → j < l.length → listed.getD j false = true := by
    intro d
    induction d using Nat.strongRecOn with
    | ind d ihd =>
     intro j hd hj
     rcases hok.lastAll j hj with ⟨e, he, hb, hon⟩ | ⟨k, ok, hjk, hk, e, he, hb, hon⟩
     ·rw [← hon]; exact h3 e he hb
     ·have hkl : k < l.length := (List.getElem?_eq_some_iff.1 hk).1
      rw [← hon]; exact hI.down k ok hk (ihd (l.length - k) (by omega) k rfl hkl) e he hb
   have hall : ∀ j, j < l.length → listed.getD j false = true := fun j hj => hall0 _ j rfl hj
   have hQ := hend listed a w hI hall
   unfold wpOp
   rw [hol]
   simp only []
   rw [if_pos (by simp [Region.wanted, hok.lastGuard])]
   left
   refine Oper.wp_mono (fun a' w' hq => ?_) hQ
   refine zi3 tl (l.length + 1) fuel (listed.setIfInBounds l.length true) a' w' (by simp; omega) (fun j o hj => ?_) (by simp [hsz2]) (fun k hk => ?_) (fun k hk => ?_) (zgz tl l.length 0 hok.tail) (by omega) hq
   ·simp only [List.getElem?_toArray]
    rw [List.getElem?_append_right (by omega), show l.length + 1 + j - l.length = j + 1 by omega, List.getElem?_cons_succ]
    exact hj
   ·by_cases e : k = l.length
    ·have h9 : l.length < listed.size := by omega
     subst e; simp [Array.getD, h9]
    ·rw [getD_set_ne false (Ne.symm e)]; exact hall k (by omega)
   ·rw [getD_set_ne false (show l.length ≠ k by omega)]; exact hlast k (by omega)
  have hls : i < listed.size := by omega
  have hf : listed.getD i false = false := by simpa [Array.getD, hls] using h1
  have h2' : l[i]? = some o := by rw [← ho i hil]; exact h2
  obtain ⟨F, hF⟩ : ∃ F, Fs[i]? = some F := ⟨Fs[i]'(by omega), by simp [show i < Fs.length by omega]⟩
  obtain ⟨lk, hop, hlk⟩ := hob i o F h2' hF
  have hfacts : ∀ s ∈ o.looksAt (l ++ ol :: tl).toArray, (lk s).F (a.tmps.getD s undef) w := by
   intro s hs
   rcases hlk s with ⟨j, o', F', hj, hoj, hFj, hd, e⟩ | ⟨hno, e⟩
   ·rw [e]
    have hlst : listed.getD j false = true := by
     rcases hok.two i j o o' h2' hoj hj with ⟨ed, he, hb, hon⟩ | ⟨h4, _⟩
     ·rw [← hon]; exact h3 ed he hb
     ·exact absurd hs (h4 s hd)
    have := hI.fact j o' F' hoj hFj hlst
    simpa [hd] using this
   ·rw [e]
    refine hI.rest s (fun j o' hoj hl hd => ?_)
    rcases Nat.lt_trichotomy j i with hji | hji | hji
    ·exact hno j o' hji hoj hd
    ·subst hji; rw [hf] at hl; cases hl
    ·rcases hok.two j i o' o hoj h2' hji with ⟨ed, he, hb, hon⟩ | ⟨_, h4⟩
     ·have := hI.down j o' hoj hl ed he hb
      rw [hon, hf] at this; cases this
     ·exact h4 s hd hs
  have hstep : ∀ v w', F.F v w' → Below w.heap.size w w' → wpAny P .any (l ++ ol :: tl).toArray Q fuel (listed.setIfInBounds i true) (a.put o.dst v) w' := by
   intro v w' hFv hbel
   have hroom : ∀ t, o.dst = some t → t < a.tmps.size := fun t ht => by rw [hI.tsz]; exact hok.room i o t h2' ht
   refine ih _ _ _ ⟨u.erase i, hnd.erase i, fun k => ?_, ?_⟩ ?_ (fun k hk => by rw [getD_set_ne false (show i ≠ k by omega)]; exact hlast k hk)
   ·rw [hnd.mem_erase_iff, hu k]
    constructor
    ·rintro ⟨hki, hkl, hkf⟩
     exact ⟨hkl, by rw [getD_set_ne false (Ne.symm hki)]; exact hkf⟩
    ·rintro ⟨hkl, hkf⟩
     have hki : k ≠ i := by
      rintro rfl
      simp [Array.getD, hls] at hkf
     exact ⟨hki, hkl, by rw [getD_set_ne false (Ne.symm hki)] at hkf; exact hkf⟩
   ·have hiu : i ∈ u := (hu i).2 ⟨hil, hf⟩
    have := List.length_pos_of_mem hiu
    rw [List.length_erase_of_mem hiu]; omega
   ·have hset : ∀ j, (listed.setIfInBounds i true).getD j false = true → j = i ∨ listed.getD j false = true := fun j hj => by
     by_cases e : j = i
     ·exact .inl e
     ·rw [getD_set_ne false (Ne.symm e)] at hj; exact .inr hj
    refine ⟨hI.bel.trans (hbel.mono (lT hB hI.bel.size)), ?_, ?_, by simpa using hI.lsz, ?_, ?_, ?_⟩
    ·rw [← hI.tsz]; cases o.dst <;> simp [Act.put]
    ·rw [← hI.dfs]; cases o.dst <;> simp [Act.put]
    ·intro j oj Fj hoj hFj hlj
     by_cases e : j = i
     ·subst e
      rw [h2'] at hoj; injection hoj with hoj; subst hoj
      rw [hF] at hFj; injection hFj with hFj; subst hFj
      cases hd : o.dst with
      | none => exact (hok.has j o h2' hd).elim
      | some d => simp only []; rw [zbs _ _ _ _ (by rw [← hd]; exact hroom)]; simpa using hFv
     ·have hl' := (hset j hlj).resolve_left e
      have h5 := Fj.st _ _ _ (hI.fact j oj Fj hoj hFj hl') hbel
      cases hd : oj.dst with
      | none => simpa [hd] using h5
      | some d =>
       simp only [hd] at h5 ⊢
       rw [zbs _ _ _ _ hroom, if_neg (fun h6 => e (hok.dsts j i oj o d hoj h2' hd h6))]
       exact h5
    ·intro d hd
     have hne : o.dst ≠ some d := hd i o h2' (by simp [Array.getD, hls])
     rw [zbs _ _ _ _ hroom, if_neg hne]
     refine hI.rest d (fun j oj hoj hl => hd j oj hoj ?_)
     by_cases e : j = i
     ·subst e; simp [Array.getD, hls]
     ·rw [getD_set_ne false (Ne.symm e)]; exact hl
    ·intro j oj hoj hlj e he hb
     have key : listed.getD e.on false = true := by
      rcases hset j hlj with h4 | h4
      ·subst h4
       rw [h2'] at hoj; injection hoj with hoj; subst hoj
       exact h3 e he hb
      ·exact hI.down j oj hoj h4 e he hb
     have hne : e.on ≠ i := fun h => by rw [h, hf] at key; cases key
     rw [getD_set_ne false (Ne.symm hne)]; exact key
  have hthis := hop a w hI.bel hfacts
  unfold wpOp
  rw [h2]
  simp only []
  split
  ·rename_i hw
   rw [if_pos hw] at hthis
   left
   refine Oper.wp_safe ?_
   have h5 := Oper.wp_mono (K' := wpAny P .any (l ++ ol :: tl).toArray Q fuel (listed.setIfInBounds i true)) (fun a' w' ⟨v, e, h6, h7⟩ => by rw [e]; exact hstep v w' h6 h7) hthis
   exact h5
  ·rename_i hw
   rw [if_neg hw] at hthis
   exact hstep undef w hthis (Below.refl _ _)

theorem zao {id n B : Nat} {l tl : List Oper} {ol : Oper} (Fs : List SF) {Q : Exit → Act → World → Prop} {a : Act} {w w0 : World} (hm : P.follows .mixedOrders = true) (hok : okS n l ol tl = true) (hsz : a.tmps.size = n)
    (hB : B ≤ w0.heap.size) (hbel : Below B w0 w) (hob : obs P (l ++ ol :: tl).toArray B w0 a l Fs []) (hfin : ∀ w', Below B w0 w' → fin (fun a w => ol.wp P a w (seqWp P Q tl) Q) l Fs a w') : (Code.region id (l ++ ol :: tl).toArray true).wp P Q a w := by
 have h1 := zjm (pre0 := []) (P := P) (B := B) l Fs [] [] [] rfl (fun s => .inr ⟨by simp, rfl⟩) hob
 refine wp_region_any hm (zly (zrn hok) h1.1 hB (fun k o F h2 h3 => ?_) hsz hfin _ _ a _ ⟨List.range l.length, List.nodup_range, fun i => ?_, by simp⟩ ⟨?_, hsz, rfl, by simp; omega, ?_, fun _ _ => rfl, ?_⟩ (by simp [Array.getD]))
 ·obtain ⟨lk, h4, h5⟩ := h1.2 k o F h2 h3
  refine ⟨lk, h4, fun s => ?_⟩
  simpa using h5 s
 ·simp [Array.getD]
 ·exact hbel.drew
 ·intro j o F h2 h3 h4
  simp [Array.getD] at h4
 ·intro j o h2 h4
  simp [Array.getD] at h4
end

abbrev W32 := BitVec 32
abbrev wv (x : W32) : Value := .int .u32 ((x.toNat : Nat) : Int)

theorem of32 (x : W32) : BitVec.ofInt 32 (x.toNat : Int) = x := by
 rw [BitVec.ofInt_natCast]; simp
theorem zig (a b : W32) : ((a.toNat : Int) + (b.toNat : Int)) % 4294967296 = (((a + b).toNat : Nat) : Int) := by
 rw [BitVec.toNat_add]; omega
theorem zlz (a b : W32) : IntKind.u32.wrap ((a.toNat : Int) + (b.toNat : Int)) = (((a + b).toNat : Nat) : Int) := by
 rw [IntKind.wrap_u32]; exact zig a b
theorem zg0 (x : W32) : IntKind.u32.wrap ((x.toNat : Nat) : Int) = ((x.toNat : Nat) : Int) := by
 have := x.isLt
 rw [IntKind.wrap_u32]; omega
theorem zih (a b : W32) : bits .xor .u32 (a.toNat : Int) (b.toNat : Int) = (((a ^^^ b).toNat : Nat) : Int) := by
 show IntKind.u32.wrap ((BitVec.ofInt 32 (a.toNat : Int) ^^^ BitVec.ofInt 32 (b.toNat : Int)).toNat : Int) = _
 rw [of32, of32, zg0]
theorem zkb (a b : W32) : bits .and .u32 (a.toNat : Int) (b.toNat : Int) = (((a &&& b).toNat : Nat) : Int) := by
 show IntKind.u32.wrap ((BitVec.ofInt 32 (a.toNat : Int) &&& BitVec.ofInt 32 (b.toNat : Int)).toNat : Int) = _
 rw [of32, of32, zg0]
theorem zcg (a b : W32) : bits .or .u32 (a.toNat : Int) (b.toNat : Int) = (((a ||| b).toNat : Nat) : Int) := by
 show IntKind.u32.wrap ((BitVec.ofInt 32 (a.toNat : Int) ||| BitVec.ofInt 32 (b.toNat : Int)).toNat : Int) = _
 rw [of32, of32, zg0]
theorem zbz (a : W32) (k : Nat) : (a.toNat : Int) / 2 ^ k = (((a >>> k).toNat : Nat) : Int) := by
 rw [BitVec.toNat_ushiftRight, Nat.shiftRight_eq_div_pow]; simp
theorem zb0 (a : W32) (k : Nat) : (a.toNat : Int) * 2 ^ k % 4294967296 = (((a <<< k).toNat : Nat) : Int) := by
 rw [BitVec.toNat_shiftLeft, Nat.shiftLeft_eq]; simp
def rotr (x : W32) (k : Nat) : W32 := x >>> k ||| x <<< (32 - k)
def ch (e f g : W32) : W32 := g ^^^ (e &&& (f ^^^ g))
def maj (a b c : W32) : W32 := (a &&& b) ||| (c &&& (a ||| b))
theorem zvj (e f g : W32) : (e &&& f) ^^^ (~~~e &&& g) = ch e f g := by
 unfold ch
 apply BitVec.eq_of_getLsbD_eq
 intro i hi
 simp only [BitVec.getLsbD_xor, BitVec.getLsbD_and, BitVec.getLsbD_not, hi, decide_true, Bool.true_and]
 cases e.getLsbD i <;> cases f.getLsbD i <;> cases g.getLsbD i <;> rfl
theorem ztl (a b c : W32) : (a &&& b) ^^^ (a &&& c) ^^^ (b &&& c) = maj a b c := by
 unfold maj
 apply BitVec.eq_of_getLsbD_eq
 intro i hi
 simp only [BitVec.getLsbD_xor, BitVec.getLsbD_and, BitVec.getLsbD_or]
 cases a.getLsbD i <;> cases b.getLsbD i <;> cases c.getLsbD i <;> rfl

def s0 (x : W32) : W32 := rotr x 7 ^^^ rotr x 18 ^^^ x >>> 3
def s1 (x : W32) : W32 := rotr x 17 ^^^ rotr x 19 ^^^ x >>> 10
def S1 (e : W32) : W32 := rotr e 6 ^^^ rotr e 11 ^^^ rotr e 25
def S0 (a : W32) : W32 := rotr a 2 ^^^ rotr a 13 ^^^ rotr a 22
def win (m : Nat → W32) : Nat → Nat → W32
  | 0, j => m j
  | t + 1, j => if j < 15 then win m t (j + 1) else win m t 0 + s0 (win m t 1) + win m t 9 + s1 (win m t 14)
def Wt (m : Nat → W32) (t : Nat) : W32 := win m t 0
theorem zgn (m : Nat → W32) : ∀ (j t : Nat), j < 16 → win m t j = Wt m (t + j)
  | 0, t, _ => rfl
  | j + 1, t, h => by
   have h1 : win m (t + 1) j = win m t (j + 1) := by simp only [win]; rw [if_pos (by omega)]
   rw [← h1, zgn m j (t + 1) (by omega), show t + 1 + j = t + (j + 1) by omega]
theorem zte (m : Nat → W32) (t : Nat) (h : t < 16) : Wt m t = m t := by
 have := zgn m t 0 h
 rw [Nat.zero_add] at this
 rw [← this]; rfl
theorem znw (m : Nat → W32) (t : Nat) : Wt m (t + 16) = Wt m t + s0 (Wt m (t + 1)) + Wt m (t + 9) + s1 (Wt m (t + 14)) := by
 have h := zgn m 15 (t + 1) (by omega)
 rw [show t + 1 + 15 = t + 16 by omega] at h
 rw [← h]
 simp only [win]
 rw [if_neg (by omega), zgn m 1 t (by omega), zgn m 9 t (by omega), zgn m 14 t (by omega)]
 rfl
def kList : List Nat := [0x428a2f98, 0x71374491, 0xb5c0fbcf, 0xe9b5dba5, 0x3956c25b, 0x59f111f1, 0x923f82a4, 0xab1c5ed5, 0xd807aa98, 0x12835b01, 0x243185be, 0x550c7dc3, 0x72be5d74, 0x80deb1fe, 0x9bdc06a7, 0xc19bf174, 0xe49b69c1, 0xefbe4786, 0x0fc19dc6, 0x240ca1cc, 0x2de92c6f, 0x4a7484aa, 0x5cb0a9dc, 0x76f988da, 0x983e5152, 0xa831c66d, 0xb00327c8, 0xbf597fc7, 0xc6e00bf3, 0xd5a79147, 0x06ca6351, 0x14292967, 0x27b70a85, 0x2e1b2138, 0x4d2c6dfc, 0x53380d13, 0x650a7354, 0x766a0abb, 0x81c2c92e, 0x92722c85, 0xa2bfe8a1, 0xa81a664b, 0xc24b8b70, 0xc76c51a3, 0xd192e819, 0xd6990624, 0xf40e3585, 0x106aa070, 0x19a4c116, 0x1e376c08, 0x2748774c, 0x34b0bcb5, 0x391c0cb3, 0x4ed8aa4a, 0x5b9cca4f, 0x682e6ff3, 0x748f82ee, 0x78a5636f, 0x84c87814, 0x8cc70208, 0x90befffa, 0xa4506ceb, 0xbef9a3f7, 0xc67178f2]
def kw (t : Nat) : W32 := BitVec.ofNat 32 (kList.getD t 0)
structure S8 where
 a : W32
 b : W32
 c : W32
 d : W32
 e : W32
 f : W32
 g : W32
 h : W32
def one (k x : W32) (s : S8) : W32 := s.h + S1 s.e + ch s.e s.f s.g + k + x
def two (s : S8) : W32 := S0 s.a + maj s.a s.b s.c
def step (k x : W32) (s : S8) : S8 := ⟨one k x s + two s, s.a, s.b, s.c, s.d + one k x s, s.e, s.f, s.g⟩
def rounds (m : Nat → W32) (s : S8) : Nat → S8
  | 0 => s
  | t + 1 => step (kw t) (Wt m t) (rounds m s t)
def S8.get (s : S8) : Nat → W32
  | 0 => s.a | 1 => s.b | 2 => s.c | 3 => s.d | 4 => s.e | 5 => s.f | 6 => s.g | 7 => s.h | _ => 0
def S8.of (H : Nat → W32) : S8 := ⟨H 0, H 1, H 2, H 3, H 4, H 5, H 6, H 7⟩
def word (m : Nat → Nat) (i : Nat) : W32 := BitVec.ofNat 32 (m (4 * i)) <<< 24 ||| BitVec.ofNat 32 (m (4 * i + 1)) <<< 16 ||| BitVec.ofNat 32 (m (4 * i + 2)) <<< 8 ||| BitVec.ofNat 32 (m (4 * i + 3))
def comp (H : Nat → W32) (m : Nat → Nat) : Nat → W32 := fun i => H i + (rounds (word m) (S8.of H) 64).get i

def OpK (lk : Tmp → SF) (x : Operand) (v : Value) : Prop := (∃ i, x = .tmp i ∧ lk i = sI v) ∨ x = .const v ∨ ∃ g, x = .global g ∧ v = .pointer (some ⟨g, 0, none⟩)
section
variable {P : Program} {ops : Array Oper} {B : Nat} {w0 : World} {o : Oper} {lk : Tmp → SF} {ty rt : TypeId}
theorem OpK.tmp {i : Tmp} {v : Value} (h : lk i = sI v) : OpK lk (.tmp i) v := .inl ⟨i, rfl, h⟩
theorem oT {lk : Tmp → SF} {i : Tmp} {v : Value} (h : lk i = sI v) : OpK lk (.tmp i) v := OpK.tmp h
theorem OpK.const {v : Value} : OpK lk (.const v) v := .inr (.inl rfl)
theorem OpK.glob {g : Nat} : OpK lk (.global g) (.pointer (some ⟨g, 0, none⟩)) := .inr (.inr ⟨g, rfl, rfl⟩)
theorem OpK.eval {a : Act} {w : World} {x : Operand} {v : Value} (hk : OpK lk x v) (hf : Opd lk o a w) (hm : x ∈ o.op.operands) : a.eval x = v := by
 rcases hk with ⟨i, rfl, hi⟩ | rfl | ⟨g, rfl, rfl⟩
 ·have h := hf i (List.mem_filterMap.2 ⟨.tmp i, by simpa using hm, rfl⟩)
  rw [hi] at h
  exact (zc4 _ _).trans h
 ·rfl
 ·rfl
theorem za0 {b : BinOp} {x y v : Value} {xo yo : Operand} (hne : (b matches .eql | .neq) = false) (hg : o.guard = none) (hop : o.op = .binOp b ty xo yo rt) (hx : OpK lk xo x) (hy : OpK lk yo y)
    (hr : ∀ w, (binOp b ty x y).run P w = .ok v w) : opOb P ops B w0 o (sI v) lk :=
 zbw v hg fun a w _ hf => by
  have h1 := hx.eval hf (by rw [hop]; simp [Op.operands])
  have h2 := hy.eval hf (by rw [hop]; simp [Op.operands])
  unfold execOp
  rw [hop]
  simp only [h1, h2]
  cases b <;> simp at hne <;> simp [eqGuard, hr]
theorem zck (x y : W32) {xo yo : Operand} (hg : o.guard = none) (hop : o.op = .binOp .add ty xo yo rt) (hx : OpK lk xo (wv x)) (hy : OpK lk yo (wv y)) : opOb P ops B w0 o (sI (wv (x + y))) lk :=
 za0 rfl hg hop hx hy fun w => by simp only [wv]; rw [← zlz]; simp [go_sem]
theorem zcl (x y : W32) {xo yo : Operand} (hg : o.guard = none) (hop : o.op = .binOp .xor ty xo yo rt) (hx : OpK lk xo (wv x)) (hy : OpK lk yo (wv y)) : opOb P ops B w0 o (sI (wv (x ^^^ y))) lk :=
 za0 rfl hg hop hx hy fun w => by simp only [wv]; rw [← zih]; simp [go_sem]
theorem zi4 (x y : W32) {xo yo : Operand} (hg : o.guard = none) (hop : o.op = .binOp .and ty xo yo rt) (hx : OpK lk xo (wv x)) (hy : OpK lk yo (wv y)) : opOb P ops B w0 o (sI (wv (x &&& y))) lk :=
 za0 rfl hg hop hx hy fun w => by simp only [wv]; rw [← zkb]; simp [go_sem]
theorem zfw (x y : W32) {xo yo : Operand} (hg : o.guard = none) (hop : o.op = .binOp .or ty xo yo rt) (hx : OpK lk xo (wv x)) (hy : OpK lk yo (wv y)) : opOb P ops B w0 o (sI (wv (x ||| y))) lk :=
 za0 rfl hg hop hx hy fun w => by simp only [wv]; rw [← zcg]; simp [go_sem]
theorem zey (x : W32) (k : Nat) (hk : k < 32) {xo : Operand} (hg : o.guard = none) (hop : o.op = .binOp .shl ty xo (.const (.int .u64 (k : Int))) rt) (hx : OpK lk xo (wv x)) : opOb P ops B w0 o (sI (wv (x <<< k))) lk :=
 za0 rfl hg hop hx OpK.const fun w => by simp only [wv]; rw [← zb0]; simp [go_sem, IntKind.wrap_u32]
theorem zg1 (x : W32) (k : Nat) (hk : k < 32) {xo : Operand} (hg : o.guard = none) (hop : o.op = .binOp .shr ty xo (.const (.int .u64 (k : Int))) rt) (hx : OpK lk xo (wv x)) : opOb P ops B w0 o (sI (wv (x >>> k))) lk :=
 za0 rfl hg hop hx OpK.const fun w => by simp only [wv]; rw [← zbz]; simp [go_sem]
theorem zpk (a c : Int) {xo yo : Operand} (hb : -9223372036854775808 ≤ a + c ∧ a + c ≤ 9223372036854775807) (hg : o.guard = none) (hop : o.op = .binOp .add ty xo yo rt) (hx : OpK lk xo (.int .i64 a)) (hy : OpK lk yo (.int .i64 c)) : opOb P ops B w0 o (sI (.int .i64 (a + c))) lk :=
 za0 rfl hg hop hx hy fun w => by rw [← IntWalk.i64_in _ hb]; simp [go_sem]
theorem zpl (a c : Int) {xo yo : Operand} (hb : -9223372036854775808 ≤ a - c ∧ a - c ≤ 9223372036854775807) (hg : o.guard = none) (hop : o.op = .binOp .sub ty xo yo rt) (hx : OpK lk xo (.int .i64 a)) (hy : OpK lk yo (.int .i64 c)) : opOb P ops B w0 o (sI (.int .i64 (a - c))) lk :=
 za0 rfl hg hop hx hy fun w => by rw [← IntWalk.i64_in _ hb]; simp [go_sem]
theorem zpm (a c : Int) {xo yo : Operand} (hb : -9223372036854775808 ≤ a * c ∧ a * c ≤ 9223372036854775807) (hg : o.guard = none) (hop : o.op = .binOp .mul ty xo yo rt) (hx : OpK lk xo (.int .i64 a)) (hy : OpK lk yo (.int .i64 c)) : opOb P ops B w0 o (sI (.int .i64 (a * c))) lk :=
 za0 rfl hg hop hx hy fun w => by rw [← IntWalk.i64_in _ hb]; simp [go_sem]
theorem zis (a p : Nat) (ha : a < 9223372036854775808) (hp : p ≤ 62) : bits .and .i64 (a : Int) ((2 ^ p - 1 : Nat) : Int) = ((a % 2 ^ p : Nat) : Int) := by
 have hpp : 2 ^ p ≤ 2 ^ 62 := Nat.pow_le_pow_right (by omega) hp
 have h0 : ∀ b : Nat, b < 9223372036854775808 → (BitVec.ofInt 64 (b : Int)).toNat = b := fun b hb => by
  rw [BitVec.ofInt_natCast, BitVec.toNat_ofNat]; exact Nat.mod_eq_of_lt (by omega)
 show IntKind.i64.wrap ((BitVec.ofInt 64 (a : Int) &&& BitVec.ofInt 64 ((2 ^ p - 1 : Nat) : Int)).toNat : Int) = _
 rw [BitVec.toNat_and, h0 a ha, h0 _ (by omega), Nat.and_two_pow_sub_one_eq_mod]
 have h1 : a % 2 ^ p ≤ a := Nat.mod_le _ _
 rw [IntKind.wrap_i64]; omega
theorem zfc (a p : Nat) (ha : a < 9223372036854775808) (hp : p ≤ 62) {xo : Operand} {m : Int} (hm : m = ((2 ^ p - 1 : Nat) : Int)) (hg : o.guard = none) (hop : o.op = .binOp .and ty xo (.const (.int .i64 m)) rt) (hx : OpK lk xo (.int .i64 (a : Int))) : opOb P ops B w0 o (sI (.int .i64 ((a % 2 ^ p : Nat) : Int))) lk :=
 za0 rfl hg hop hx OpK.const fun w => by rw [← zis a p ha hp, ← hm]; simp [go_sem]
theorem zcc (a c : Nat) {xo yo : Operand} (hb : a + c ≤ 9223372036854775807) (hg : o.guard = none) (hop : o.op = .binOp .add ty xo yo rt) (hx : OpK lk xo (.int .i64 (a : Int))) (hy : OpK lk yo (.int .i64 (c : Int))) : opOb P ops B w0 o (sI (.int .i64 ((a + c : Nat) : Int))) lk := by
 rw [Int.natCast_add]; exact zpk a c (by omega) hg hop hx hy
theorem zbn (a c : Nat) {xo yo : Operand} (hb : a * c ≤ 9223372036854775807) (hg : o.guard = none) (hop : o.op = .binOp .mul ty xo yo rt) (hx : OpK lk xo (.int .i64 (a : Int))) (hy : OpK lk yo (.int .i64 (c : Int))) : opOb P ops B w0 o (sI (.int .i64 ((a * c : Nat) : Int))) lk := by
 rw [Int.natCast_mul]; refine zpm a c ?_ hg hop hx hy
 rw [← Int.natCast_mul]; omega
theorem zdp (b : Nat) (hb : b < 256) {xo : Operand} {t8 t32 : TypeId} (h8 : P.underlying t8 = some (.int .u8)) (h32 : P.underlying t32 = some (.int .u32)) (hg : o.guard = none) (hop : o.op = .convert t8 t32 xo) (hx : OpK lk xo (.int .u8 (b : Int))) : opOb P ops B w0 o (sI (wv (BitVec.ofNat 32 b))) lk :=
 zbw _ hg fun a w _ hf => by
  have h1 := hx.eval hf (by rw [hop]; simp [Op.operands])
  have e : (b : Int) = (((BitVec.ofNat 32 b : W32).toNat : Nat) : Int) := by rw [BitVec.toNat_ofNat]; omega
  unfold execOp
  rw [hop]
  simp only [h1, wv]
  rw [← e]
  have h2 : IntKind.u32.wrap (b : Int) = b := by rw [IntKind.wrap_u32]; omega
  simp [go_sem, h8, h32, h2]
theorem zar (a : Addr) {xo : Operand} (hg : o.guard = none) (hop : o.op = .nilCheck xo) (hx : OpK lk xo (.pointer (some a))) : opOb P ops B w0 o (sI (.pointer (some a))) lk :=
 zbw _ hg fun a w _ hf => by
  have h1 := hx.eval hf (by rw [hop]; simp [Op.operands])
  unfold execOp
  rw [hop]
  simp only [h1]
  rfl
theorem zak {x i v : Value} {xo io : Operand} (hg : o.guard = none) (hop : o.op = .indexAddr ty xo io) (hx : OpK lk xo x) (hi : OpK lk io i) (hr : ∀ w, (Instr.indexAt ty x i).run P w = .ok v w) : opOb P ops B w0 o (sI v) lk :=
 zbw _ hg fun a w _ hf => by
  have h1 := hx.eval hf (by rw [hop]; simp [Op.operands])
  have h2 := hi.eval hf (by rw [hop]; simp [Op.operands])
  unfold execOp
  rw [hop]
  simp only [h1, h2]
  simp [hr w]
theorem zad {p v : Value} {xo : Operand} (hg : o.guard = none) (hop : o.op = .load ty xo) (hx : OpK lk xo p) (hr : ∀ w, Below B w0 w → (Instr.loadAt ty p).run P w = .ok v w) : opOb P ops B w0 o (sI v) lk :=
 zbw _ hg fun a w hb hf => by
  have h1 := hx.eval hf (by rw [hop]; simp [Op.operands])
  unfold execOp
  rw [hop]
  simp only [h1]
  simp [hr w hb]
theorem zdf {a : Act} {w : World} {K : Act → World → Prop} {Q : Exit → Act → World → Prop} {p x : Operand} {ad : Addr} {v : Value} (hop : o.op = .store ty p x) (hd : o.dst = none) (hp : a.eval p = .pointer (some ad)) (hx : a.eval x = v)
    (hr : (Instr.storeAt ty (.pointer (some ad)) v).run P w = .ok () (w.setCell ad v)) (h : K a (w.setCell ad v)) : o.wp P a w K Q := by
 unfold Oper.wp execOp
 rw [hop]
 simp only [hp, hx]
 rw [Sem.run_bind, hr]
 simp only [Result.andThen_ok, Sem.run_pure, Oper.upon, hd, Act.put]
 exact h
end

theorem zez {w : World} {a : Addr} {v : Value} (h : w.cell? a = some v) : a.block < w.heap.size := by
 rcases Nat.lt_or_ge a.block w.heap.size with hl | hl
 ·exact hl
 ·exfalso
  unfold World.cell? at h
  rw [Array.getElem?_eq_none hl] at h
  simp at h

def OpKo (lk : Tmp → SF) : Option Operand → Option Value → Prop
  | none, none => True
  | some x, some v => OpK lk x v
  | _, _ => False
section
variable {P : Program} {ops : Array Oper} {B : Nat} {w0 : World} {o : Oper} {lk : Tmp → SF} {ty rt : TypeId}
theorem OpKo.no : OpKo lk none none := trivial
theorem OpKo.tmp {i : Tmp} {v : Value} (h : lk i = sI v) : OpKo lk (some (.tmp i)) (some v) := oT h
theorem OpKo.const {v : Value} : OpKo lk (some (.const v)) (some v) := OpK.const
theorem OpKo.eval {a : Act} {w : World} {x : Option Operand} {v : Option Value} (hk : OpKo lk x v) (hf : Opd lk o a w) (hm : ∀ y, x = some y → y ∈ o.op.operands) : x.map a.eval = v := by
 cases x with
 | none =>
  cases v with
  | none => rfl
  | some v => exact hk.elim
 | some x =>
  cases v with
  | none => exact hk.elim
  | some v => simp only [Option.map_some]; rw [OpK.eval hk hf (hm x rfl)]
theorem zbe {x v : Value} {l h : Option Value} {xo : Operand} {lo ho : Option Operand} (hg : o.guard = none) (hop : o.op = .slice ty xo lo ho none) (hx : OpK lk xo x) (hl : OpKo lk lo l) (hh : OpKo lk ho h)
    (hr : ∀ w, (Instr.sliceAt ty x l h none).run P w = .ok v w) : opOb P ops B w0 o (sI v) lk :=
 zbw _ hg fun a w _ hf => by
  have h1 := hx.eval hf (by rw [hop]; simp [Op.operands])
  have h2 := hl.eval hf (fun y hy => by rw [hop, hy]; simp [Op.operands])
  have h3 := hh.eval hf (fun y hy => by rw [hop, hy]; simp [Op.operands])
  unfold execOp
  rw [hop]
  simp only [h1]
  rw [show lo.map (fun y => a.eval y) = l from h2, show ho.map (fun y => a.eval y) = h from h3]
  simp [hr w]
theorem zal {x v : Value} {xo : Operand} {k : Nat} (hg : o.guard = none) (hop : o.op = .fieldAddr ty xo k) (hx : OpK lk xo x) (hr : ∀ w, (Instr.fieldAt ty x k).run P w = .ok v w) : opOb P ops B w0 o (sI v) lk :=
 zbw _ hg fun a w _ hf => by
  have h1 := hx.eval hf (by rw [hop]; simp [Op.operands])
  unfold execOp
  rw [hop]
  simp only [h1]
  simp [hr w]
theorem ze0 {x v : Value} {xo : Operand} {s d : TypeId} (hg : o.guard = none) (hop : o.op = .convert s d xo) (hx : OpK lk xo x) (hr : ∀ w, (convert s d x).run P w = .ok v w) : opOb P ops B w0 o (sI v) lk :=
 zbw _ hg fun a w _ hf => by
  have h1 := hx.eval hf (by rw [hop]; simp [Op.operands])
  unfold execOp
  rw [hop]
  simp only [h1]
  simp [hr w]
theorem zcw {A : Option Addr} {n c : Nat} {xo : Operand} {t e : TypeId} (hu : P.underlying t = some (.slice e)) (hg : o.guard = none) (hop : o.op = .call { callee := .builtin .len, args := #[xo], argTypes := #[t] }) (hx : OpK lk xo (.slice A n c)) : opOb P ops B w0 o (sI (.int .i64 (n : Int))) lk :=
 zbw _ hg fun a w _ hf => by
  have h1 := hx.eval hf (by rw [hop]; simp [Op.operands, Call.operands])
  unfold execOp
  simp only [hop, resolve, invoke, builtin, Sem.run_bind, Sem.run_pure, Result.andThen_ok, List.map_toArray, List.map_cons, List.map_nil, h1]
  simp [Builtin.len_, run_underlying hu, go_sem]
theorem zkc {f : FuncId} (hent : ∀ vs w, (callFunc f vs).run P w = .ok (.enter f vs) w) {xs : Array Operand} {vs : Array Value} {ts : Array TypeId} {F : SF} (hg : o.guard = none) (hop : o.op = .call { callee := .value (.func f), args := xs, argTypes := ts }) (hx : ∀ a w, Opd lk o a w → xs.map a.eval = vs)
    (hr : ∀ w, Below B w0 w → Calls P f vs w fun e w' => ∃ v, e = .returned v ∧ F.F v w' ∧ Below w.heap.size w w') : opOb P ops B w0 o F lk :=
 zb9 hg fun a w hb hf => ⟨f, vs, by
  unfold execOp
  rw [hop]
  have h := hx a w hf
  simp only [resolve]
  rw [show (Array.map (fun x => a.eval x) xs) = vs from h]
  simp [invoke, Deferred.ofValue, Act.eval, hent], hr w hb⟩
theorem zby {f : FuncId} (hent : ∀ vs w, (callFunc f vs).run P w = .ok (.enter f vs) w) {x : Operand} {v : Value} {ts : Array TypeId} {F : SF} (hg : o.guard = none) (hop : o.op = .call { callee := .value (.func f), args := #[x], argTypes := ts }) (hx : OpK lk x v)
    (hr : ∀ w, Below B w0 w → Calls P f #[v] w fun e w' => ∃ v, e = .returned v ∧ F.F v w' ∧ Below w.heap.size w w') : opOb P ops B w0 o F lk :=
 zkc hent hg hop (fun a w hf => by
  have h := hx.eval hf (by rw [hop]; simp [Op.operands, Call.operands])
  simp [h]) hr
theorem zbi {f : FuncId} (hent : ∀ vs w, (callFunc f vs).run P w = .ok (.enter f vs) w) {x y : Operand} {v u : Value} {ts : Array TypeId} {F : SF} (hg : o.guard = none) (hop : o.op = .call { callee := .value (.func f), args := #[x, y], argTypes := ts }) (hx : OpK lk x v) (hy : OpK lk y u)
    (hr : ∀ w, Below B w0 w → Calls P f #[v, u] w fun e w' => ∃ v, e = .returned v ∧ F.F v w' ∧ Below w.heap.size w w') : opOb P ops B w0 o F lk :=
 zkc hent hg hop (fun a w hf => by
  have h := hx.eval hf (by rw [hop]; simp [Op.operands, Call.operands])
  have h' := hy.eval hf (by rw [hop]; simp [Op.operands, Call.operands])
  simp [h, h']) hr
theorem zg2 {f : FuncId} (hent : ∀ vs w, (callFunc f vs).run P w = .ok (.enter f vs) w) {x y z : Operand} {v u t : Value} {ts : Array TypeId} {F : SF} (hg : o.guard = none) (hop : o.op = .call { callee := .value (.func f), args := #[x, y, z], argTypes := ts }) (hx : OpK lk x v) (hy : OpK lk y u) (hz : OpK lk z t)
    (hr : ∀ w, Below B w0 w → Calls P f #[v, u, t] w fun e w' => ∃ v, e = .returned v ∧ F.F v w' ∧ Below w.heap.size w w') : opOb P ops B w0 o F lk :=
 zkc hent hg hop (fun a w hf => by
  have h := hx.eval hf (by rw [hop]; simp [Op.operands, Call.operands])
  have h' := hy.eval hf (by rw [hop]; simp [Op.operands, Call.operands])
  have h'' := hz.eval hf (by rw [hop]; simp [Op.operands, Call.operands])
  simp [h, h', h'']) hr
end

section
variable {P : Program} {a : Act} {w : World} {K : Act → World → Prop} {Q : Exit → Act → World → Prop} {o : Oper}
theorem zpn {x : Operand} (v : Value) (hop : o.op = .assign x ∨ o.op = .move x) (hx : a.eval x = v) (h : K (a.put o.dst v) w) : o.wp P a w K Q := by
 subst hx
 unfold Oper.wp execOp
 rcases hop with hop | hop <;> (rw [hop]; exact h)
theorem znj (w : World) {dT sT ty elem : TypeId} (hu : P.underlying dT = some (.slice elem)) (hs : (P.info? elem).map (·.size) = some 1) {g : Nat} {t : TypeId} {N : Nat} {F : Nat → Value} (hr : w.rowIs g t N F) (off dLen dCap : Nat)
    {A : Option Addr} {sLen sCap B : Nat} {fs : Nat → Value} (hsrc : Rd w B A sLen fs) (h1 : ∀ i, i < sLen → (fs i).oneCell' = true) (n : Nat) (hn : n = min sLen dLen) (hfit : off + n ≤ N) :
    ∃ w1, (Builtin.copy_ #[dT, sT] ty #[.slice (some ⟨g, off, none⟩) dLen dCap, .slice A sLen sCap]).run P w = .ok (.int .i64 (n : Int)) w1 ∧ w1.rowIs g t N (fun j => if off ≤ j ∧ j < off + n then fs (j - off) else F j) ∧ w.grownBy w1 (some g) := by
 by_cases h0 : n = 0
 ·refine ⟨w, ?_, hr.congr (fun j _ => by rw [if_neg (by omega)]), World.grownBy.refl _ _⟩
  have := run_copy_none (P := P) w dT sT ty elem (some ⟨g, off, none⟩) A dLen dCap sLen sCap hu hs (hn.symm.trans h0)
  rw [this, h0]; rfl
 ·obtain ⟨ad, rfl, _, hc⟩ := hsrc (by omega)
  obtain ⟨cur, hcur, hsz, hcc⟩ := hr
  have hlen : ((List.range n).map fs).length = n := by simp
  have hrun := run_copy_row (P := P) w dT sT ty elem g off dLen dCap ad sLen sCap cur t ((List.range n).map fs) hu hs hcur (by rw [hlen, hn]) (fun j v hj => by
   have hjl : j < n := by
    rcases Nat.lt_or_ge j n with h | h
    ·exact h
    ·simp [h] at hj
   rw [hc j (by omega)]
   simp [hjl] at hj
   exact congrArg some hj) (by rw [hlen]; omega) (fun v hv => by
   obtain ⟨j, hj, rfl⟩ := List.mem_map.1 hv
   exact h1 j (by have := List.mem_range.1 hj; omega))
  rw [hlen] at hrun
  refine ⟨_, hrun, ?_, ⟨rfl, rfl, rfl, by rw [zec]; exact Nat.le_refl _, fun i _ hne => by
   unfold World.setRow
   have : ¬ g = i := fun e => hne (by rw [e])
   simp [Array.getElem?_modify, this]⟩⟩
  refine World.rowIs_setRow ⟨cur, hcur, hsz, hcc⟩ _ (by simp; omega) _ (fun i hi => ?_)
  have hci := hcc i hi
  simp only [List.getElem?_toArray, List.getElem?_append, List.length_take, List.length_append, List.length_map, List.length_range, Array.length_toList]
  by_cases h2 : i < off
  ·rw [if_neg (show ¬ (off ≤ i ∧ i < off + n) by omega)]
   rw [if_pos (show i < min off cur.size + n by omega), if_pos (show i < min off cur.size by omega), List.getElem?_take, if_pos h2, Array.getElem?_toList, hci]
  ·by_cases h3 : i < off + n
   ·rw [if_pos (show off ≤ i ∧ i < off + n by omega)]
    simp [show min off cur.size = off by omega, h2, h3, List.getElem?_map, List.getElem?_range (show i - off < n by omega)]
   ·rw [if_neg (show ¬ (off ≤ i ∧ i < off + n) by omega)]
    simp [show min off cur.size = off by omega, h3, show off + n + (i - (off + n)) = i by omega, hcc i hi]
theorem zg3 {d s : Operand} {dT sT elem : TypeId} (hop : o.op = .call { callee := .builtin .copy, args := #[d, s], argTypes := #[dT, sT] }) (hu : P.underlying dT = some (.slice elem)) (hs : (P.info? elem).map (·.size) = some 1) {g : Nat} {t : TypeId} {N : Nat} {F : Nat → Value} (hr : w.rowIs g t N F) (off dLen dCap : Nat)
    {A : Option Addr} {sLen sCap B : Nat} {fs : Nat → Value} (hsrc : Rd w B A sLen fs) (h1 : ∀ i, i < sLen → (fs i).oneCell' = true) (n : Nat) (hn : n = min sLen dLen) (hfit : off + n ≤ N) (hd : a.eval d = .slice (some ⟨g, off, none⟩) dLen dCap) (hss : a.eval s = .slice A sLen sCap)
    (hK : ∀ w1, w1.rowIs g t N (fun j => if off ≤ j ∧ j < off + n then fs (j - off) else F j) → w.grownBy w1 (some g) → K (a.put o.dst (.int .i64 (n : Int))) w1) : o.wp P a w K Q := by
 obtain ⟨w1, hrun, h2, h3⟩ := znj (P := P) w (ty := o.type) hu hs hr off dLen dCap (sCap := sCap) hsrc h1 n hn hfit
 unfold Oper.wp execOp
 simp only [hop, resolve, invoke, builtin, Sem.run_bind, Sem.run_pure, Result.andThen_ok, List.map_toArray, List.map_cons, List.map_nil, hd, hss]
 rw [hrun]
 exact hK w1 h2 h3
theorem zdm {f : FuncId} (hent : ∀ vs w, (callFunc f vs).run P w = .ok (.enter f vs) w) {xs : Array Operand} {ts : Array TypeId} (vs : Array Value) (hop : o.op = .call { callee := .value (.func f), args := xs, argTypes := ts }) (hx : xs.toList.map a.eval = vs.toList)
    (hr : Calls P f vs w fun e w' => ∃ v, e = .returned v ∧ K (a.put o.dst v) w') : o.wp P a w K Q := by
 have hx' : xs.map (fun x => a.eval x) = vs := by
  apply Array.toList_inj.1
  rw [← hx]; simp
 have hrun : (execOp a.eval o).run P w = .ok (.enter f vs) w := by
  unfold execOp
  rw [hop]
  simp only [resolve]
  rw [hx']
  simp [invoke, Deferred.ofValue, Act.eval, hent]
 unfold Oper.wp
 rw [hrun]
 exact hr.mono fun e w' ⟨v, he, hk⟩ => by subst he; exact hk
theorem zbp {T e : TypeId} {n : Nat} (hu : P.underlying T = some (.array n e)) (z : Nat) (hz : (P.info? e).map (·.size) = some z) {g o : Nat} (low high : Option Value) (l h : Nat)
    (hl : low = none ∧ l = 0 ∨ low = some (.int .i64 (l : Int))) (hh : high = none ∧ h = n ∨ high = some (.int .i64 (h : Int))) (hlh : l ≤ h) (hn : h ≤ n) (hln : l < n) {off len cap : Nat} (hoff : off = o + l * z) (hlen : len = h - l) (hcap : cap = n - l) :
    (Instr.sliceAt T (.pointer (some ⟨g, o, none⟩)) low high none).run P w = .ok (.slice (some ⟨g, off, none⟩) len cap) w := by
 rw [hoff, hlen, hcap]
 have hne : ¬ n = l := by omega
 have had : (⟨g, o, none⟩ : Addr).add (l * z) = ⟨g, o + l * z, none⟩ := by unfold Addr.add; split <;> simp_all
 have hsz : (sizeOf e).run P w = .ok z w := by
  cases hq : P.info? e with
  | none => rw [hq] at hz; simp at hz
  | some i => rw [hq] at hz; simp at hz; simp [sizeOf, typeInfo, hq, hz]
 have b1 : ∀ (y : Nat) (c : BoundsCode), l ≤ y → (Instr.sliceBound (.int .i64 (l : Int)) y c).run P w = .ok l w := fun y c hy => by
  rw [run_sliceBound w .i64 (l : Int) y c (by omega) (by omega)]; simp
 have b2 : ∀ (y : Nat) (c : BoundsCode), h ≤ y → (Instr.sliceBound (.int .i64 (h : Int)) y c).run P w = .ok h w := fun y c hy => by
  rw [run_sliceBound w .i64 (h : Int) y c (by omega) (by omega)]; simp
 rcases hl with ⟨rfl, rfl⟩ | rfl <;> rcases hh with ⟨rfl, rfl⟩ | rfl <;>
   simp [Instr.sliceAt, Instr.sureAddr, run_underlying hu, Instr.sliceBounds, b1, b2, hlh, hn, hsz, hne, had] <;> simp_all
def Cut (A A' : Option Addr) (n k : Nat) : Prop :=
 (∀ (w : World) (B : Nat) (f : Nat → Value), Rd w B A n f → Rd w B A' (n - k) (fun i => f (k + i))) ∧ ∀ ad', A' = some ad' → ∃ ad, A = some ad ∧ ad'.block = ad.block
theorem zcm {e : TypeId} {z : Nat} (hz : (P.info? e).map (·.size) = some z) (w : World) : (sizeOf e).run P w = .ok z w := by
 cases hq : P.info? e with
 | none => rw [hq] at hz; simp at hz
 | some i => rw [hq] at hz; simp at hz; simp [sizeOf, typeInfo, hq, hz]
theorem zfd (a : Addr) : a.add 0 = a := by unfold Addr.add; simp
theorem zkd {t e : TypeId} (hu : P.underlying t = some (.slice e)) (hz : (P.info? e).map (·.size) = some 1) (A : Option Addr) (n c l h : Nat) (low high : Option Value)
    (hl : low = none ∧ l = 0 ∨ low = some (.int .i64 (l : Int))) (hh : high = none ∧ h = n ∨ high = some (.int .i64 (h : Int))) (hlh : l ≤ h) (hn : h ≤ n) (hnc : n ≤ c) :
    ∃ A', (∀ w, (Instr.sliceAt t (.slice A n c) low high none).run P w = .ok (.slice A' (h - l) (c - l)) w) ∧ Cut A A' h l := by
 have b1 : ∀ (y : Nat) (k : BoundsCode) (w : World), l ≤ y → (Instr.sliceBound (.int .i64 (l : Int)) y k).run P w = .ok l w := fun y k w hy => by
  rw [run_sliceBound w .i64 (l : Int) y k (by omega) (by omega)]; simp
 have b2 : ∀ (y : Nat) (k : BoundsCode) (w : World), h ≤ y → (Instr.sliceBound (.int .i64 (h : Int)) y k).run P w = .ok h w := fun y k w hy => by
  rw [run_sliceBound w .i64 (h : Int) y k (by omega) (by omega)]; simp
 refine ⟨if c = l then A else A.map (·.add (l * 1)), fun w => ?_, fun w B f hr => ?_, fun ad' had => ?_⟩
 ·have hs := zcm hz
  have h9 : h ≤ c := by omega
  rcases hl with ⟨rfl, rfl⟩ | rfl <;> rcases hh with ⟨rfl, rfl⟩ | rfl <;>
    simp [Instr.sliceAt, Instr.slice, run_underlying hu, Instr.sliceBounds, b1, b2, hlh, h9, hs, zfd] <;> simp_all
 ·intro h0
  obtain ⟨ad, rfl, hb, hc⟩ := hr (by omega)
  rw [if_neg (by omega)]
  refine ⟨ad.add (l * 1), rfl, by rw [za7]; exact hb, fun i hi => ?_⟩
  rw [zfo, Nat.mul_one]
  exact hc (l + i) (by omega)
 ·by_cases e : c = l
  ·rw [if_pos e] at had; exact ⟨ad', had, rfl⟩
  ·rw [if_neg e] at had
   cases A with
   | none => cases had
   | some ad => injection had with had; subst had; exact ⟨ad, rfl, za7 _ _⟩
theorem zl0 {t e : TypeId} (hu : P.underlying t = some (.slice e)) (hz : (P.info? e).map (·.size) = some 1) (A : Option Addr) (n c k : Nat) (hk : k ≤ n) (hnc : n ≤ c) :
 ∃ A', (∀ w, (Instr.sliceAt t (.slice A n c) (some (.int .i64 (k : Int))) none none).run P w = .ok (.slice A' (n - k) (c - k)) w) ∧ Cut A A' n k :=
 zkd hu hz A n c k n _ _ (.inr rfl) (.inl ⟨rfl, rfl⟩) hk lR hnc
theorem zvk {t e : TypeId} (hu : P.underlying t = some (.slice e)) (hz : (P.info? e).map (·.size) = some 1) (A : Option Addr) (n c h : Nat) (hh : h ≤ c) (w : World) :
 (Instr.sliceAt t (.slice A n c) none (some (.int .i64 (h : Int))) none).run P w = .ok (.slice A h c) w := by
 have b2 : (Instr.sliceBound (.int .i64 (h : Int)) c .sliceAcap).run P w = .ok h w := by
  rw [run_sliceBound w .i64 (h : Int) c _ (by omega) (by omega)]; simp
 simp [Instr.sliceAt, Instr.slice, run_underlying hu, Instr.sliceBounds, b2, zcm hz, zfd]
theorem Cut.rd {A A' : Option Addr} {n k : Nat} (h : Cut A A' n k) {w : World} {B : Nat} {f : Nat → Value} (hr : Rd w B A n f) : Rd w B A' (n - k) (fun i => f (k + i)) := h.1 w B f hr
def Hi (A : Option Addr) (n B : Nat) : Prop := 0 < n → ∀ ad, A = some ad → B ≤ ad.block
theorem Cut.hi {A A' : Option Addr} {n k g : Nat} (h : Cut A A' n k) (hg : Hi A n g) : Hi A' (n - k) g := fun h0 ad' e => by
 obtain ⟨ad, ha, hb⟩ := h.2 ad' e
 rw [hb]; exact hg (by omega) ad ha
theorem Rd.hs {w w' : World} {rows : List RowSpec} {B n : Nat} {A : Option Addr} {f : Nat → Value} (h : Rd w B A n f) (hs : HS w w' rows) (hB : B ≤ w.heap.size) (ha : 0 < n → ∀ ad, A = some ad → ∀ r ∈ rows, r.b ≠ ad.block) : Rd w' B A n f := fun hn => by
 obtain ⟨ad, rfl, hb, hc⟩ := h hn
 exact ⟨ad, rfl, hb, fun i hi => (World.cell?_of_block (a := ad.add i) (hs.block _ (by rw [za7]; omega) (fun r hr => by rw [za7]; exact ha hn ad rfl r hr))).trans (hc i hi)⟩
theorem Rd.of_part {w : World} {g : Nat} {t : TypeId} {N o n : Nat} {F f : Nat → Value} (h : w.rowIs g t N F) (ho : o + n ≤ N) (e : ∀ i, i < n → F (o + i) = f i) : Rd w w.heap.size (some ⟨g, o, none⟩) n f := fun _ =>
 ⟨_, rfl, h.lt, fun i hi => by
  have had : (⟨g, o, none⟩ : Addr).add i = ⟨g, o + i, none⟩ := by unfold Addr.add; split <;> simp_all
  rw [had, h.cell (by omega), e i hi]⟩
theorem zg4 {a : Act} {K : Act → World → Prop} {Q : Exit → Act → World → Prop} {o : Oper} {ty : TypeId} {x y : Operand} (ho : o.op = .store ty x y)
    {b : Nat} {t : TypeId} {n : Nat} {f : Nat → Value} (hr : w.rowIs b t n f) (cs : Array Value) (hx : a.eval x = .pointer (some ⟨b, 0, none⟩)) (hy : a.eval y = .agg cs) (hn : cs.size = n) (hi : (P.info? ty).map (·.size) = some n)
    (h1 : ∀ i, i < n → ∃ v, cs[i]? = some v ∧ v.oneCell' = true) (hK : K (a.put o.dst undef) (w.setRow b cs)) : o.wp P a w K Q := by
 unfold Oper.wp execOp
 simp only [ho, hx, hy, Sem.run_bind, zf8 hr ty cs hn hi h1, Result.andThen_ok, Sem.run_pure]
 exact hK
theorem zbk {w : World} {ops : Array Oper} {rest : List Oper} {o1 o2 : Oper} {a : Act} {Q : Exit → Act → World → Prop} (hg1 : o1.guard = none) (hg2 : o2.guard = none) (t ty : TypeId) (d : Tmp) (y : Operand) (ho1 : o1.op = .alloc t) (_hd : o1.dst = some d) (ho2 : o2.op = .store ty (.tmp d) y)
    (n : Nat) (cs0 : Array Value) (hz : (P.info? t).bind (·.zero) = some (.agg cs0)) (hn0 : cs0.size = n) (cs : Array Value) (hy : (a.put o1.dst (.pointer (some ⟨w.heap.size, 0, none⟩))).eval y = .agg cs) (hp : (a.put o1.dst (.pointer (some ⟨w.heap.size, 0, none⟩))).eval (.tmp d) = .pointer (some ⟨w.heap.size, 0, none⟩))
    (hn : cs.size = n) (hi : (P.info? ty).map (·.size) = some n) (h1 : ∀ i, i < n → ∃ v, cs[i]? = some v ∧ v.oneCell' = true) (f : Nat → Value) (hf : ∀ i, i < n → cs[i]? = some (f i))
    (hK : ∀ w', w'.rowIs w.heap.size t n f → Below w.heap.size w w' → wpList P ops Q rest ((a.put o1.dst (.pointer (some ⟨w.heap.size, 0, none⟩))).put o2.dst undef) w') : wpList P ops Q (o1 :: o2 :: rest) a w := by
 have h0 := (HS.nil w).allocB w.heap.size cs0 t n (fun i => cs0.getD i undef) hn0 (fun i hi => zi0 _ i (by omega)) rfl
 refine zjo hg1 t ho1 cs0 hz ?_
 refine zcb hg2 ty (.tmp d) y ho2 (h0.row 0 rfl) cs hp hy hn hi h1 ?_
 have h2 := h0.setRow 0 rfl cs hn f hf
 exact hK _ (h2.row 0 rfl) (h2.out (by simp))
theorem zlh {w : World} {ops : Array Oper} {rest : List Oper} {o : Oper} {a : Act} {Q : Exit → Act → World → Prop} (hgd : o.guard = none) (t : TypeId) (x : Operand) (lo hi : Option Operand) (ho : o.op = .slice t x lo hi none)
    {v hv : Value} {l h : Option Value} (hx : a.eval x = v) (hr : ∀ w, (Instr.sliceAt t v l h none).run P w = .ok hv w) (hl : lo.map a.eval = l) (hh : hi.map a.eval = h)
    (hK : wpList P ops Q rest (a.put o.dst hv) w) : wpList P ops Q (o :: rest) a w :=
 wpList_plain hgd fun _ hK' => by
  have hrun : (execOp a.eval o).run P w = .ok (.value hv) w := by
   unfold execOp
   rw [ho]
   simp only [hx]
   rw [show lo.map (fun y => a.eval y) = l from hl, show hi.map (fun y => a.eval y) = h from hh]
   simp [hr w]
  unfold Oper.wp
  rw [hrun]
  exact hK' _ _ hK
end
end Go.Proofs.YtomilckcgmhfcaaDoor
