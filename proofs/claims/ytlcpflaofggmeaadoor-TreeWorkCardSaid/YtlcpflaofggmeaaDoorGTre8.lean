/- A part of what the proofs stand on: OwnReg, Eq, Eq2. -/
import Derived.Test.YtlcpflaofggmeaaDoorGTre7
import Derived.Laws.StructEq
import Derived.Laws.Pointers
/- A region that draws its order, shown operation by operation, in which operations may write into rows that the region itself made (append in place): each such row is known to one slot alone, and whoever writes it takes it over. -/
namespace Go.Proofs.YtlcpflaofggmeaaDoor
set_option maxRecDepth 40000
open Go.RowKit

/-- A fact on a value and the world; the block that it owns, if any. -/
structure OF where
  F : Value → World → Prop
  foot : Value → Option Nat
  st : ∀ v w w' row, F v w → w.grownBy w' row → (∀ b, foot v = some b → row ≠ some b) → F v w'
  lt : ∀ v w b, F v w → foot v = some b → b < w.heap.size
def OF.is (e : Value) : OF := ⟨fun v _ => v = e, fun _ => none, fun _ _ _ _ h _ _ => h, fun _ _ _ _ h => by cases h⟩
def OF.any : OF := ⟨fun _ _ => True, fun _ => none, fun _ _ _ _ _ _ _ => trivial, fun _ _ _ _ h => by cases h⟩
def footOf : Value → Option Nat
  | .slice (some a) _ _ => some a.block
  | _ => none
/-- A row of the call's own, as a slice. -/
def OF.own (base : Nat) (e : TypeId) (n : Nat) (f : Nat → Value) : OF :=
  ⟨fun v w => ∃ A c, v = .slice A n c ∧ Own w base e A n c f, footOf,
    fun _ _ _ row ⟨A, c, e1, h⟩ hg hne => ⟨A, c, e1, h.kept hg fun ad ha => fun er => hne ad.block (by rw [e1, ha]; rfl) er.symm⟩,
    fun _ _ b ⟨A, c, e1, h⟩ hf => by
      subst e1
      cases A with
      | none => cases hf
      | some ad => injection hf with hf; subst hf; exact (h.base_le ad rfl).2⟩
def OF.own0 (base : Nat) (e : TypeId) : OF :=
  ⟨fun v w => ∃ b, v = .slice (some ⟨b, 0, none⟩) 0 0 ∧ Own w base e (some ⟨b, 0, none⟩) 0 0 (fun _ => undef), footOf,
    fun _ _ _ row ⟨b, e1, h⟩ hg hne => ⟨b, e1, h.kept hg fun ad ha => fun er => by injection ha with ha; subst ha; exact hne b (by rw [e1]; rfl) er.symm⟩,
    fun _ _ b ⟨b', e1, h⟩ hf => by subst e1; injection hf with hf; subst hf; exact (h.base_le _ rfl).2⟩
/-- Forgetting what is owned. -/
def OF.toSF (G : OF) : SF := ⟨G.F, fun v w w' h hb => G.st v w w' none h ⟨hb.os, hb.tape, hb.output, hb.size, fun k hk _ => hb.block k hk⟩ (fun b _ => by simp)⟩

section
variable {P : Program}
def lookO (a0 : Act) : List (Tmp × OF) → Tmp → OF
  | [], s => OF.is (a0.tmps.getD s undef)
  | (d, F) :: E, s => if d = s then F else lookO a0 E s
def pushO (o : Oper) (F : OF) (E : List (Tmp × OF)) : List (Tmp × OF) := match o.dst with | some d => (d, F) :: E | none => E
/-- One operation, by itself; cp: the slot whose row it takes over. -/
def opObO (P : Program) (ops : Array Oper) (B : Nat) (w0 : World) (o : Oper) (F : OF) (lk : Tmp → OF) (cp : Option Tmp) : Prop :=
  ∀ a w, Below B w0 w → (∀ s ∈ o.looksAt ops, (lk s).F (a.tmps.getD s undef) w) →
    if Region.wanted o (yielded ops a.tmps) = true then o.wp P a w (fun a' w' => ∃ v row, a' = a.put o.dst v ∧ F.F v w' ∧ w.grownBy w' row ∧
        (∀ b, row = some b → B ≤ b ∧ ∃ p, cp = some p ∧ (lk p).foot (a.tmps.getD p undef) = some b) ∧
        (∀ b, F.foot v = some b → w.heap.size ≤ b ∨ ∃ p, cp = some p ∧ (lk p).foot (a.tmps.getD p undef) = some b)) (fun _ _ _ => False)
    else F.F undef w ∧ F.foot undef = none
def obsO (P : Program) (ops : Array Oper) (B : Nat) (w0 : World) (a0 : Act) : List Oper → List OF → List (Option Tmp) → List (Tmp × OF) → Prop
  | [], [], [], _ => True
  | o :: os, F :: Fs, c :: cs, E => opObO P ops B w0 o F (lookO a0 E) c ∧ obsO P ops B w0 a0 os Fs cs (pushO o F E)
  | _, _, _, _ => False
def finO (Q : Act → World → Prop) : List Oper → List OF → List Bool → Act → World → Prop
  | o :: os, F :: Fs, false :: bs, a, w => ∀ v, F.F v w → finO Q os Fs bs (a.put o.dst v) w
  | o :: os, _ :: Fs, true :: bs, a, w => ∀ v, finO Q os Fs bs (a.put o.dst v) w
  | _, _, _, a, w => Q a w

/-- The static part: l, then the tail tl; cps: what each takes over; fl: whose rows are taken over. -/
def okO (n : Nat) (l tl : List Oper) (cps : List (Option Tmp)) (fl : List Bool) : Bool :=
  okR n l.toArray && okTl l.length 0 tl && decide (cps.length = l.length) && decide (fl.length = l.length) &&
    l.all (fun o => match o.guard with | some (j, _) => decide (j < l.length) | none => true) &&
    (match tl with | [] => true | ol :: _ => (List.range l.length).all (fun i => (ol.after.any fun e => Region.binds .any e && e.on == i) || (List.range l.length).any (fun k => decide (i < k) && match l[k]? with | some ok => ok.after.any (fun e => Region.binds .any e && e.on == i) | none => false))) &&
    (List.range l.length).all (fun i => match l[i]?, cps[i]? with
      | some oi, some (some p) => (oi.looksAt l.toArray).contains p && (List.range l.length).all (fun k => k == i || (match l[k]? with | some ok => !(ok.looksAt l.toArray).contains p | none => true)) && (List.range l.length).any (fun j => decide (j < i) && (match l[j]? with | some oj => oj.dst == some p | none => false))
      | _, _ => true) &&
    (List.range l.length).all (fun j => match l[j]?, fl[j]? with
      | some oj, some true => (List.range l.length).any (fun i => match cps[i]? with | some (some p) => oj.dst == some p | _ => false)
      | some oj, some false => (List.range l.length).all (fun i => match cps[i]? with | some (some p) => oj.dst != some p | _ => true)
      | _, _ => true)

structure OkO (n : Nat) (l tl : List Oper) (cps : List (Option Tmp)) (fl : List Bool) : Prop where
  back : ∀ (i : Nat) oi, l[i]? = some oi → ∀ e ∈ oi.after, Region.binds .any e = true → e.on < i
  room : ∀ (i : Nat) oi d, l[i]? = some oi → oi.dst = some d → d < n
  has : ∀ (i : Nat) oi, l[i]? = some oi → oi.dst ≠ none
  two : ∀ (i j : Nat) oi oj, l[i]? = some oi → l[j]? = some oj → j < i → (∃ e ∈ oi.after, Region.binds .any e = true ∧ e.on = j) ∨ ((∀ d, oj.dst = some d → d ∉ oi.looksAt (l ++ tl).toArray) ∧ (∀ d, oi.dst = some d → d ∉ oj.looksAt (l ++ tl).toArray))
  dsts : ∀ (i j : Nat) oi oj d, l[i]? = some oi → l[j]? = some oj → oi.dst = some d → oj.dst = some d → i = j
  tail : okTl l.length 0 tl = true
  lastAll : ∀ ol tl', tl = ol :: tl' → ∀ j, j < l.length → (∃ e ∈ ol.after, Region.binds .any e = true ∧ e.on = j) ∨ ∃ k ok, j < k ∧ l[k]? = some ok ∧ ∃ e ∈ ok.after, Region.binds .any e = true ∧ e.on = j
  clen : cps.length = l.length
  flen : fl.length = l.length
  takes : ∀ (i : Nat) oi p, l[i]? = some oi → cps[i]? = some (some p) → p ∈ oi.looksAt (l ++ tl).toArray ∧ (∀ (k : Nat) ok, k ≠ i → l[k]? = some ok → p ∉ ok.looksAt (l ++ tl).toArray) ∧ ∃ (j : Nat) (oj : Oper), j < i ∧ l[j]? = some oj ∧ oj.dst = some p
  flag : ∀ (j : Nat) oj, l[j]? = some oj → (fl[j]? = some true → ∃ i p, i < l.length ∧ cps[i]? = some (some p) ∧ oj.dst = some p) ∧ (fl[j]? = some false → ∀ (i : Nat) p, i < l.length → cps[i]? = some (some p) → oj.dst ≠ some p)
theorem looksAt_app {l tl : List Oper} {o : Oper} (ho : o ∈ l) (hg : l.all (fun o => match o.guard with | some (j, _) => decide (j < l.length) | none => true) = true) : o.looksAt (l ++ tl).toArray = o.looksAt l.toArray := by
  unfold Oper.looksAt
  congr 1
  have h := List.all_eq_true.1 hg o ho
  cases hgd : o.guard with
  | none => rfl
  | some p =>
    obtain ⟨j, b⟩ := p
    simp only [hgd, decide_eq_true_eq] at h
    simp [List.getElem?_append_left h]
theorem okO_spec {n : Nat} {l tl : List Oper} {cps : List (Option Tmp)} {fl : List Bool} (h : okO n l tl cps fl = true) : OkO n l tl cps fl := by
  unfold okO at h
  simp only [Bool.and_eq_true] at h
  obtain ⟨⟨⟨⟨⟨⟨⟨h1, h2⟩, h3⟩, h4⟩, h5⟩, h6⟩, h7⟩, h8⟩ := h
  have hr := okR_spec h1
  have hm : ∀ (i : Nat) oi, l[i]? = some oi → l.toArray[i]? = some oi := fun i oi h => by simpa using h
  refine ⟨fun i oi h => hr.back i oi (hm i oi h), fun i oi d h => hr.room i oi d (hm i oi h), fun i oi h => hr.has i oi (hm i oi h), ?_, fun i j oi oj d h k => hr.dsts i j oi oj d (hm i oi h) (hm j oj k), h2, ?_, by simpa using h3, by simpa using h4, ?_, ?_⟩
  · intro i j oi oj hi hj hji
    rw [looksAt_app (List.mem_of_getElem? hi) h5, looksAt_app (List.mem_of_getElem? hj) h5]
    exact hr.two i j oi oj (hm i oi hi) (hm j oj hj) hji
  · rintro ol tl' rfl j hj
    simp only [] at h6
    rw [List.all_eq_true] at h6
    have := h6 j (List.mem_range.2 hj)
    rw [Bool.or_eq_true] at this
    rcases this with this | this
    · rw [Array.any_eq_true] at this
      obtain ⟨x, hx, h9⟩ := this
      simp only [Bool.and_eq_true, beq_iff_eq] at h9
      exact .inl ⟨ol.after[x], Array.getElem_mem hx, h9⟩
    · rw [List.any_eq_true] at this
      obtain ⟨k, _, h9⟩ := this
      simp only [Bool.and_eq_true, decide_eq_true_eq] at h9
      obtain ⟨hjk, h10⟩ := h9
      cases hk : l[k]? with
      | none => rw [hk] at h10; cases h10
      | some ok =>
        rw [hk] at h10
        simp only [] at h10
        rw [Array.any_eq_true] at h10
        obtain ⟨x, hx, h11⟩ := h10
        simp only [Bool.and_eq_true, beq_iff_eq] at h11
        exact .inr ⟨k, ok, hjk, hk, ok.after[x], Array.getElem_mem hx, h11⟩
  · intro i oi p hi hc
    have hil : i < l.length := (List.getElem?_eq_some_iff.1 hi).1
    rw [List.all_eq_true] at h7
    have h9 := h7 i (List.mem_range.2 hil)
    rw [hi, hc] at h9
    simp only [Bool.and_eq_true] at h9
    obtain ⟨⟨h10, h11⟩, h12⟩ := h9
    refine ⟨by rw [looksAt_app (List.mem_of_getElem? hi) h5]; simpa using h10, fun k ok hki hk => ?_, ?_⟩
    · rw [looksAt_app (List.mem_of_getElem? hk) h5]
      have hkl : k < l.length := (List.getElem?_eq_some_iff.1 hk).1
      rw [List.all_eq_true] at h11
      have h13 := h11 k (List.mem_range.2 hkl)
      rw [hk] at h13
      simp only [Bool.or_eq_true, beq_iff_eq] at h13
      rcases h13 with h13 | h13
      · exact absurd h13 hki
      · simpa using h13
    · rw [List.any_eq_true] at h12
      obtain ⟨j, _, h13⟩ := h12
      simp only [Bool.and_eq_true, decide_eq_true_eq] at h13
      obtain ⟨h14, h15⟩ := h13
      cases hj : l[j]? with
      | none => rw [hj] at h15; cases h15
      | some oj => rw [hj] at h15; exact ⟨j, oj, h14, hj, by simpa using h15⟩
  · intro j oj hj
    have hjl : j < l.length := (List.getElem?_eq_some_iff.1 hj).1
    rw [List.all_eq_true] at h8
    have h9 := h8 j (List.mem_range.2 hjl)
    rw [hj] at h9
    refine ⟨fun hf => ?_, fun hf i p hi hc => ?_⟩
    · rw [hf] at h9
      simp only [] at h9
      rw [List.any_eq_true] at h9
      obtain ⟨i, hi, h10⟩ := h9
      cases hc : cps[i]? with
      | none => rw [hc] at h10; cases h10
      | some c =>
        rw [hc] at h10
        cases c with
        | none => cases h10
        | some p => exact ⟨i, p, List.mem_range.1 hi, hc, by simpa using h10⟩
    · rw [hf] at h9
      simp only [] at h9
      rw [List.all_eq_true] at h9
      have h10 := h9 i (List.mem_range.2 hi)
      rw [hc] at h10
      simpa using h10

/-- What is known at an operation, by the writers ahead of it. -/
theorem obsO_at {ops : Array Oper} {B : Nat} {w0 : World} {a0 : Act} : ∀ (os : List Oper) (Fs : List OF) (cs : List (Option Tmp)) (E : List (Tmp × OF)) (pre : List Oper) (Fp : List OF),
    pre.length = Fp.length →
    (∀ s, (∃ (j : Nat) (o : Oper) (F : OF), pre[j]? = some o ∧ Fp[j]? = some F ∧ o.dst = some s ∧ lookO a0 E s = F) ∨ ((∀ o ∈ pre, o.dst ≠ some s) ∧ lookO a0 E s = OF.is (a0.tmps.getD s undef))) →
    obsO P ops B w0 a0 os Fs cs E → os.length = Fs.length ∧ ∀ k o F c, os[k]? = some o → Fs[k]? = some F → cs[k]? = some c → ∃ lk, opObO P ops B w0 o F lk c ∧
      ∀ s, (∃ (j : Nat) (o' : Oper) (F' : OF), j < pre.length + k ∧ (pre ++ os)[j]? = some o' ∧ (Fp ++ Fs)[j]? = some F' ∧ o'.dst = some s ∧ lk s = F') ∨ ((∀ (j : Nat) (o' : Oper), j < pre.length + k → (pre ++ os)[j]? = some o' → o'.dst ≠ some s) ∧ lk s = OF.is (a0.tmps.getD s undef))
  | [], [], [], _, _, _, _, _, _ => ⟨rfl, fun k o F c h => by simp at h⟩
  | [], [], _ :: _, _, _, _, _, _, h => h.elim
  | [], _ :: _, _, _, _, _, _, _, h => h.elim
  | _ :: _, [], _, _, _, _, _, _, h => h.elim
  | _ :: _, _ :: _, [], _, _, _, _, _, h => h.elim
  | o :: os, F :: Fs, c :: cs, E, pre, Fp, hl, hE, h => by
    obtain ⟨h1, h2⟩ := h
    have hE' : ∀ s, (∃ (j : Nat) (o' : Oper) (F' : OF), (pre ++ [o])[j]? = some o' ∧ (Fp ++ [F])[j]? = some F' ∧ o'.dst = some s ∧ lookO a0 (pushO o F E) s = F') ∨ ((∀ o' ∈ pre ++ [o], o'.dst ≠ some s) ∧ lookO a0 (pushO o F E) s = OF.is (a0.tmps.getD s undef)) := by
      intro s
      by_cases hd : o.dst = some s
      · refine .inl ⟨pre.length, o, F, by simp, by simp [hl], hd, ?_⟩
        simp [pushO, hd, lookO]
      · have hp : lookO a0 (pushO o F E) s = lookO a0 E s := by
          unfold pushO
          cases hdd : o.dst with
          | none => rfl
          | some d => simp only [lookO]; rw [if_neg (fun e => hd (by rw [hdd, e]))]
        rcases hE s with ⟨j, o', F', h3, h4, h5, h6⟩ | ⟨h3, h4⟩
        · have hj := (List.getElem?_eq_some_iff.1 h3).1
          exact .inl ⟨j, o', F', by rw [List.getElem?_append_left hj]; exact h3, by rw [List.getElem?_append_left (by omega)]; exact h4, h5, by rw [hp]; exact h6⟩
        · refine .inr ⟨fun o' ho' => ?_, by rw [hp]; exact h4⟩
          rcases List.mem_append.1 ho' with h5 | h5
          · exact h3 o' h5
          · simp at h5; subst h5; exact hd
    obtain ⟨hlen, hrest⟩ := obsO_at os Fs cs (pushO o F E) (pre ++ [o]) (Fp ++ [F]) (by simp [hl]) hE' h2
    refine ⟨by simp [hlen], fun k ok Fk ck hk hF hc => ?_⟩
    cases k with
    | zero =>
      simp only [List.getElem?_cons_zero, Option.some.injEq] at hk hF hc
      subst hk hF hc
      refine ⟨lookO a0 E, h1, fun s => ?_⟩
      rcases hE s with ⟨j, o', F', h3, h4, h5, h6⟩ | ⟨h3, h4⟩
      · have hj := (List.getElem?_eq_some_iff.1 h3).1
        exact .inl ⟨j, o', F', by omega, by rw [List.getElem?_append_left hj]; exact h3, by rw [List.getElem?_append_left (by omega)]; exact h4, h5, h6⟩
      · refine .inr ⟨fun j o' hj ho' => ?_, h4⟩
        rw [List.getElem?_append_left (by omega)] at ho'
        exact h3 o' (List.mem_of_getElem? ho')
    | succ k =>
      simp only [List.getElem?_cons_succ] at hk hF hc
      obtain ⟨lk, h3, h4⟩ := hrest k ok Fk ck hk hF hc
      refine ⟨lk, h3, fun s => ?_⟩
      have e1 : pre ++ [o] ++ os = pre ++ o :: os := by simp
      have e2 : Fp ++ [F] ++ Fs = Fp ++ F :: Fs := by simp
      have e3 : (pre ++ [o]).length + k = pre.length + (k + 1) := by simp; omega
      have h5 := h4 s
      rw [e1, e2, e3] at h5
      exact h5

theorem finO_use {Q : Act → World → Prop} {w : World} {a : Act} : ∀ (os : List Oper) (Fs : List OF) (bs : List Bool) (b : Act), os.length = Fs.length → bs.length = os.length → finO Q os Fs bs b w →
    (∀ (j : Nat) o F, os[j]? = some o → Fs[j]? = some F → bs[j]? = some false → F.F (match o.dst with | some d => a.tmps.getD d undef | none => undef) w) → b.tmps.size = a.tmps.size → b.defers = a.defers →
    (∀ d, (∀ (j : Nat) o, os[j]? = some o → o.dst ≠ some d) → b.tmps.getD d undef = a.tmps.getD d undef) →
    (∀ (j : Nat) o d, os[j]? = some o → o.dst = some d → d < a.tmps.size) → Q a w
  | [], [], _, b, _, _, h, _, hs, hdf, hr, _ => by
    have : b = a := by
      obtain ⟨bt, bd⟩ := b
      obtain ⟨at_, ad⟩ := a
      simp only at hs hdf hr
      subst hdf
      congr
      apply Array.ext hs
      intro i h1 h2
      have := hr i (by simp)
      simpa [Array.getD, h1, h2] using this
    rw [← this]; exact h
  | [], _ :: _, _, _, hl, _, _, _, _, _, _, _ => by simp at hl
  | _ :: _, [], _, _, hl, _, _, _, _, _, _, _ => by simp at hl
  | _ :: _, _ :: _, [], _, _, hl, _, _, _, _, _, _ => by simp at hl
  | o :: os, F :: Fs, c :: bs, b, hl, hl2, h, hF, hs, hdf, hr, hroom => by
    have hlt : ∀ t, o.dst = some t → t < b.tmps.size := fun t ht => by rw [hs]; exact hroom 0 o t rfl ht
    have hnext : finO Q os Fs bs (b.put o.dst (match o.dst with | some d => a.tmps.getD d undef | none => undef)) w := by
      cases c with
      | false => exact h _ (hF 0 o F rfl rfl rfl)
      | true => exact h _
    refine finO_use os Fs bs (b.put o.dst (match o.dst with | some d => a.tmps.getD d undef | none => undef)) (by simpa using hl) (by simpa using hl2) hnext (fun j o' F' h1 h2 h3 => hF (j + 1) o' F' h1 h2 h3) ?_ ?_ ?_ (fun j o' d h1 h2 => hroom (j + 1) o' d h1 h2)
    · rw [← hs]; cases o.dst <;> simp [Act.put]
    · rw [← hdf]; cases o.dst <;> simp [Act.put]
    · intro d hd
      rw [put_getD _ _ _ _ hlt]
      by_cases e : o.dst = some d
      · rw [if_pos e]; simp [e]
      · rw [if_neg e]
        refine hr d (fun j o' hj => ?_)
        cases j with
        | zero => simp at hj; subst hj; exact e
        | succ j => exact hd j o' hj

/-- Listed, and not taken over. -/
def Alive (l : List Oper) (cps : List (Option Tmp)) (listed : Array Bool) (j : Nat) : Prop :=
  listed.getD j false = true ∧ ∀ (i : Nat) p oj, l[j]? = some oj → cps[i]? = some (some p) → oj.dst = some p → listed.getD i false = false
def valAt (o : Oper) (a : Act) : Value := match o.dst with | some d => a.tmps.getD d undef | none => undef
structure RInvO (n : Nat) (l tl : List Oper) (Fs : List OF) (cps : List (Option Tmp)) (B : Nat) (w0 : World) (a0 : Act) (listed : Array Bool) (a : Act) (w : World) : Prop where
  bel : Below B w0 w
  tsz : a.tmps.size = n
  dfs : a.defers = a0.defers
  lsz : listed.size = l.length + tl.length
  fact : ∀ (j : Nat) o F, l[j]? = some o → Fs[j]? = some F → Alive l cps listed j → F.F (valAt o a) w
  dis : ∀ (j k : Nat) oj ok Fj Fk b, l[j]? = some oj → l[k]? = some ok → Fs[j]? = some Fj → Fs[k]? = some Fk → j ≠ k → Alive l cps listed j → Alive l cps listed k → Fj.foot (valAt oj a) = some b → Fk.foot (valAt ok a) ≠ some b
  rest : ∀ d, (∀ (j : Nat) o, l[j]? = some o → listed.getD j false = true → o.dst ≠ some d) → a.tmps.getD d undef = a0.tmps.getD d undef
  down : ∀ (j : Nat) o, l[j]? = some o → listed.getD j false = true → ∀ e ∈ o.after, Region.binds .any e = true → listed.getD e.on false = true

theorem wpAny_factsO {l tl : List Oper} {Fs : List OF} {cps : List (Option Tmp)} {fl : List Bool} {n B : Nat} {w0 : World} {a0 : Act} {Q : Exit → Act → World → Prop} (hok : OkO n l tl cps fl) (hlen : l.length = Fs.length) (hB : B ≤ w0.heap.size)
    (hob : ∀ (k : Nat) o F c, l[k]? = some o → Fs[k]? = some F → cps[k]? = some c → ∃ lk, opObO P (l ++ tl).toArray B w0 o F lk c ∧
      ∀ s, (∃ (j : Nat) (o' : Oper) (F' : OF), j < k ∧ l[j]? = some o' ∧ Fs[j]? = some F' ∧ o'.dst = some s ∧ lk s = F') ∨ ((∀ (j : Nat) (o' : Oper), j < k → l[j]? = some o' → o'.dst ≠ some s) ∧ lk s = OF.is (a0.tmps.getD s undef)))
    (hsz : a0.tmps.size = n) (hfin : ∀ w, Below B w0 w → finO (fun a w => seqWp P Q tl a w) l Fs fl a0 w) :
    ∀ (fuel : Nat) (listed : Array Bool) (a : Act) (w : World), (∃ u : List Nat, u.Nodup ∧ (∀ i, i ∈ u ↔ i < l.length ∧ listed.getD i false = false) ∧ u.length + tl.length ≤ fuel) →
      RInvO n l tl Fs cps B w0 a0 listed a w → (∀ k, l.length ≤ k → listed.getD k false = false) → wpAny P .any (l ++ tl).toArray Q fuel listed a w := by
  have ho : ∀ (i : Nat), i < l.length → (l ++ tl).toArray[i]? = l[i]? := fun i hi => by simp [List.getElem?_append_left hi]
  -- all listed: the tail
  have hend : ∀ (listed : Array Bool) (a : Act) (w : World), RInvO n l tl Fs cps B w0 a0 listed a w → (∀ i, i < l.length → listed.getD i false = true) → seqWp P Q tl a w := by
    intro listed a w hI hall
    refine finO_use l Fs fl a0 hlen hok.flen (hfin w hI.bel) (fun j o F h1 h2 h3 => hI.fact j o F h1 h2 ⟨hall j (List.getElem?_eq_some_iff.1 h1).1, fun i p oj h4 h5 h6 => ?_⟩) (hsz.trans hI.tsz.symm) hI.dfs.symm ?_ (fun j o d h1 h2 => by rw [hI.tsz]; exact hok.room j o d h1 h2)
    · rw [h1] at h4; injection h4 with h4; subst h4
      exact absurd h6 ((hok.flag j o h1).2 h3 i p (by have := (List.getElem?_eq_some_iff.1 h5).1; rw [hok.clen] at this; exact this) h5)
    · intro d hd
      exact (hI.rest d (fun j o h1 _ => hd j o h1)).symm
  have hgo : ∀ (fuel : Nat) (listed : Array Bool) (a : Act) (w : World), RInvO n l tl Fs cps B w0 a0 listed a w → (∀ k, l.length ≤ k → listed.getD k false = false) → (∀ i, i < l.length → listed.getD i false = true) → tl.length ≤ fuel → wpAny P .any (l ++ tl).toArray Q fuel listed a w := by
    intro fuel listed a w hI hno hall hf
    exact tail_run tl l.length fuel listed a w (by simp) (fun j o hj => by
      simp only [List.getElem?_toArray]
      rw [List.getElem?_append_right (by omega), show l.length + j - l.length = j by omega]; exact hj) hI.lsz hall hno hok.tail hf (hend listed a w hI hall)
  intro fuel
  induction fuel with
  | zero =>
    intro listed a w ⟨u, _, hu, hul⟩ hI hno
    have hun : u = [] := List.eq_nil_of_length_eq_zero (by omega)
    subst hun
    refine hgo 0 listed a w hI hno (fun i hi => ?_) (by omega)
    cases hc : listed.getD i false with
    | true => rfl
    | false => exact absurd ((hu i).2 ⟨hi, hc⟩) (by simp)
  | succ fuel ih =>
    intro listed a w ⟨u, hnd, hu, hul⟩ hI hno
    by_cases hall : ∀ i, i < l.length → listed.getD i false = true
    · exact hgo (fuel + 1) listed a w hI hno hall (by omega)
    have hsz2 : listed.size = l.length + tl.length := hI.lsz
    -- some operation of l is ready
    have hex : ∃ i, i < l.length ∧ listed.getD i false = false ∧ ∀ j, j < i → listed.getD j false = true := by
      have hne : ∃ i, i < l.length ∧ listed.getD i false = false := by
        rcases Classical.not_forall.1 hall with ⟨i, hi⟩
        rw [Classical.not_imp] at hi
        exact ⟨i, hi.1, by cases h : listed.getD i false with | true => exact absurd h hi.2 | false => rfl⟩
      have : ∀ m, (∃ i, i < m ∧ i < l.length ∧ listed.getD i false = false) → ∃ i, i < l.length ∧ listed.getD i false = false ∧ ∀ j, j < i → listed.getD j false = true := by
        intro m
        induction m with
        | zero => rintro ⟨i, h, _⟩; omega
        | succ m ihm =>
          rintro ⟨i, h1, h2, h3⟩
          by_cases h4 : ∃ i', i' < m ∧ i' < l.length ∧ listed.getD i' false = false
          · exact ihm h4
          · refine ⟨i, h2, h3, fun j hj => ?_⟩
            cases h : listed.getD j false with
            | true => rfl
            | false => exact absurd ⟨j, by omega, by omega, h⟩ h4
      obtain ⟨i, h1, h2⟩ := hne
      exact this (i + 1) ⟨i, by omega, h1, h2⟩
    refine ⟨fun hr => ?_, fun i hi => ?_⟩
    · exfalso
      obtain ⟨i, h1, h2, h3⟩ := hex
      have h4 : i < listed.size := by omega
      have : i ∈ Region.ready .any (l ++ tl).toArray listed := mem_ready.2 ⟨unlisted h2 h4, l[i], by rw [ho i h1]; simp [h1], fun e he hb => h3 e.on (hok.back i l[i] (by simp [h1]) e he hb)⟩
      rw [hr] at this; cases this
    obtain ⟨h1, o, h2, h3⟩ := mem_ready.1 hi
    have hi2 : i < (l ++ tl).toArray.size := (Array.getElem?_eq_some_iff.1 h2).1
    have hil : i < l.length := by
      rcases Nat.lt_or_ge i l.length with h | hge
      · exact h
      · exfalso
        have hi3 : i < l.length + tl.length := by simpa using hi2
        have ho2 : tl[i - l.length]? = some o := by
          have h9 := h2
          simp only [List.getElem?_toArray] at h9
          rwa [List.getElem?_append_right (by omega)] at h9
        by_cases e0 : i = l.length
        · subst e0
          rw [Nat.sub_self] at ho2
          cases tl with
          | nil => simp at ho2
          | cons ol tl' =>
            simp at ho2; subst ho2
            have hall0 : ∀ d j, l.length - j = d → j < l.length → listed.getD j false = true := by
              intro d
              induction d using Nat.strongRecOn with
              | ind d ihd =>
                intro j hd hj
                rcases hok.lastAll ol tl' rfl j hj with ⟨e, he, hb, hon⟩ | ⟨k, ok, hjk, hk, e, he, hb, hon⟩
                · rw [← hon]; exact h3 e he hb
                · have hkl : k < l.length := (List.getElem?_eq_some_iff.1 hk).1
                  rw [← hon]; exact hI.down k ok hk (ihd (l.length - k) (by omega) k rfl hkl) e he hb
            exact hall (fun j hj => hall0 _ j rfl hj)
        · obtain ⟨_, _, hx⟩ := okTl_at tl l.length 0 hok.tail _ _ ho2
          obtain ⟨e, he, hb, hon⟩ := hx (by omega)
          have h9 := h3 e he hb
          rw [hno e.on (by omega)] at h9; cases h9
    have hls : i < listed.size := by omega
    have hf : listed.getD i false = false := by simpa [Array.getD, hls] using h1
    have h2' : l[i]? = some o := by rw [← ho i hil]; exact h2
    obtain ⟨F, hF⟩ : ∃ F, Fs[i]? = some F := ⟨Fs[i]'(by omega), by simp [show i < Fs.length by omega]⟩
    obtain ⟨c, hc⟩ : ∃ c, cps[i]? = some c := ⟨cps[i]'(by rw [hok.clen]; exact hil), by simp [show i < cps.length by rw [hok.clen]; exact hil]⟩
    obtain ⟨lk, hop, hlk⟩ := hob i o F c h2' hF hc
    -- the writer of an operand lives
    have hliv : ∀ s ∈ o.looksAt (l ++ tl).toArray, ∀ (j : Nat) o', j < i → l[j]? = some o' → o'.dst = some s → Alive l cps listed j := by
      intro s hs j o' hj hoj hd
      refine ⟨?_, fun k p oj hoj' hck hdp => ?_⟩
      · rcases hok.two i j o o' h2' hoj hj with ⟨ed, he, hb, hon⟩ | ⟨h4, _⟩
        · rw [← hon]; exact h3 ed he hb
        · exact absurd hs (h4 s hd)
      · rw [hoj] at hoj'; injection hoj' with hoj'; subst hoj'
        rw [hd] at hdp; injection hdp with hdp; subst hdp
        by_cases hki : k = i
        · rw [hki]; exact hf
        · have hkl : k < l.length := by have := (List.getElem?_eq_some_iff.1 hck).1; rw [hok.clen] at this; exact this
          exact absurd hs ((hok.takes k l[k] s (by simp [hkl]) hck).2.1 i o (Ne.symm hki) h2')
    -- what its operands are known to be
    have hfacts : ∀ s ∈ o.looksAt (l ++ tl).toArray, (lk s).F (a.tmps.getD s undef) w := by
      intro s hs
      rcases hlk s with ⟨j, o', F', hj, hoj, hFj, hd, e⟩ | ⟨hno', e⟩
      · rw [e]
        have := hI.fact j o' F' hoj hFj (hliv s hs j o' hj hoj hd)
        simpa [valAt, hd] using this
      · rw [e]
        refine hI.rest s (fun j o' hoj hl hd => ?_)
        rcases Nat.lt_trichotomy j i with hji | hji | hji
        · exact hno' j o' hji hoj hd
        · subst hji; rw [hf] at hl; cases hl
        · rcases hok.two j i o' o hoj h2' hji with ⟨ed, he, hb, hon⟩ | ⟨_, h4⟩
          · have := hI.down j o' hoj hl ed he hb
            rw [hon, hf] at this; cases this
          · exact h4 s hd hs
    -- the writer of what is taken over
    have htake : ∀ p b, c = some p → (lk p).foot (a.tmps.getD p undef) = some b → ∃ (j : Nat) (oj : Oper) (Fj : OF), j < i ∧ l[j]? = some oj ∧ Fs[j]? = some Fj ∧ oj.dst = some p ∧ Alive l cps listed j ∧ Fj.foot (valAt oj a) = some b := by
      rintro p b rfl hb
      obtain ⟨t1, t2, j, oj, t3, t4, t5⟩ := hok.takes i o p h2' hc
      rcases hlk p with ⟨j', o', F', hj, hoj, hFj, hd, e⟩ | ⟨hno', _⟩
      · rw [e] at hb
        exact ⟨j', o', F', hj, hoj, hFj, hd, hliv p t1 j' o' hj hoj hd, by simpa [valAt, hd] using hb⟩
      · exact absurd t5 (hno' j oj t3 t4)
    -- the state behind it
    have hstep : ∀ v w' row, F.F v w' → w.grownBy w' row → (∀ b, row = some b → B ≤ b ∧ ∃ p, c = some p ∧ (lk p).foot (a.tmps.getD p undef) = some b) → (∀ b, F.foot v = some b → w.heap.size ≤ b ∨ ∃ p, c = some p ∧ (lk p).foot (a.tmps.getD p undef) = some b) →
        wpAny P .any (l ++ tl).toArray Q fuel (listed.setIfInBounds i true) (a.put o.dst v) w' := by
      intro v w' row hFv hgr hrow hfoot
      have hroom : ∀ t, o.dst = some t → t < a.tmps.size := fun t ht => by rw [hI.tsz]; exact hok.room i o t h2' ht
      have hset : ∀ j, (listed.setIfInBounds i true).getD j false = true → j = i ∨ listed.getD j false = true := fun j hj => by
        by_cases e : j = i
        · exact .inl e
        · rw [getD_set_ne false (Ne.symm e)] at hj; exact .inr hj
      have hal : ∀ j, j ≠ i → Alive l cps (listed.setIfInBounds i true) j → Alive l cps listed j := fun j hji h => by
        refine ⟨(hset j h.1).resolve_left hji, fun k p oj a1 a2 a3 => ?_⟩
        have := h.2 k p oj a1 a2 a3
        by_cases e : k = i
        · rw [e]; exact hf
        · rwa [getD_set_ne false (Ne.symm e)] at this
      have hval : ∀ (j : Nat) oj, j ≠ i → l[j]? = some oj → valAt oj (a.put o.dst v) = valAt oj a := fun j oj hji hoj => by
        unfold valAt
        cases hd : oj.dst with
        | none => rfl
        | some d =>
          simp only []
          rw [put_getD _ _ _ _ hroom, if_neg (fun h6 => hji (hok.dsts j i oj o d hoj h2' hd h6))]
      have hvi : valAt o (a.put o.dst v) = v := by
        unfold valAt
        cases hd : o.dst with
        | none => exact (hok.has i o h2' hd).elim
        | some d => simp only []; rw [← hd, put_getD _ _ _ _ hroom, if_pos hd]
      -- what lives behind it was not taken over by it
      have hnt : ∀ j oj p b, j ≠ i → l[j]? = some oj → Alive l cps (listed.setIfInBounds i true) j → c = some p → (lk p).foot (a.tmps.getD p undef) = some b → ∀ Fj, Fs[j]? = some Fj → Fj.foot (valAt oj a) ≠ some b := by
        intro j oj p b hji hoj hA hcp hb Fj hFj hfj
        obtain ⟨jp, op, Fp, t1, t2, t3, t4, t5, t6⟩ := htake p b hcp hb
        have hne : j ≠ jp := by
          rintro rfl
          rw [hoj] at t2; injection t2 with t2; subst t2
          have := hA.2 i p oj hoj (by rw [hc, hcp]) t4
          simp [Array.getD, hls] at this
        exact hI.dis j jp oj op Fj Fp b hoj t2 hFj t3 hne (hal j hji hA) t5 hfj t6
      have hbw : Below B w w' := by
        refine ⟨hgr.os, hgr.tape, hgr.output, hgr.size, fun k hk => hgr.block k ?_ (fun e => ?_)⟩
        · have := hI.bel.size; omega
        · have := (hrow k e.symm).1; omega
      refine ih _ _ _ ⟨u.erase i, hnd.erase i, fun k => ?_, ?_⟩ ?_ (fun k hk => by rw [getD_set_ne false (show i ≠ k by omega)]; exact hno k hk)
      · rw [hnd.mem_erase_iff, hu k]
        constructor
        · rintro ⟨hki, hkl, hkf⟩
          exact ⟨hkl, by rw [getD_set_ne false (Ne.symm hki)]; exact hkf⟩
        · rintro ⟨hkl, hkf⟩
          have hki : k ≠ i := by
            rintro rfl
            simp [Array.getD, hls] at hkf
          exact ⟨hki, hkl, by rw [getD_set_ne false (Ne.symm hki)] at hkf; exact hkf⟩
      · have hiu : i ∈ u := (hu i).2 ⟨hil, hf⟩
        have := List.length_pos_of_mem hiu
        rw [List.length_erase_of_mem hiu]; omega
      · refine ⟨hI.bel.trans hbw, ?_, ?_, by simpa using hI.lsz, ?_, ?_, ?_, ?_⟩
        · rw [← hI.tsz]; cases o.dst <;> simp [Act.put]
        · rw [← hI.dfs]; cases o.dst <;> simp [Act.put]
        · intro j oj Fj hoj hFj hA
          by_cases e : j = i
          · subst e
            rw [h2'] at hoj; injection hoj with hoj; subst hoj
            rw [hF] at hFj; injection hFj with hFj; subst hFj
            rw [hvi]; exact hFv
          · rw [hval j oj e hoj]
            refine Fj.st _ _ _ row (hI.fact j oj Fj hoj hFj (hal j e hA)) hgr (fun b hb hr => ?_)
            obtain ⟨_, p, hp, hpb⟩ := hrow b hr
            exact hnt j oj p b e hoj hA hp hpb Fj hFj hb
        · intro j k oj ok Fj Fk b hoj hok' hFj hFk hjk hAj hAk hbj hbk
          by_cases ej : j = i
          · subst ej
            rw [h2'] at hoj; injection hoj with hoj; subst hoj
            rw [hF] at hFj; injection hFj with hFj; subst hFj
            rw [hvi] at hbj
            rw [hval k ok (Ne.symm hjk) hok'] at hbk
            have hAk' := hal k (Ne.symm hjk) hAk
            rcases hfoot b hbj with h9 | ⟨p, hp, hpb⟩
            · have := Fk.lt _ _ b (hI.fact k ok Fk hok' hFk hAk') hbk
              omega
            · exact hnt k ok p b (Ne.symm hjk) hok' hAk hp hpb Fk hFk hbk
          · by_cases ek : k = i
            · subst ek
              rw [h2'] at hok'; injection hok' with hok'; subst hok'
              rw [hF] at hFk; injection hFk with hFk; subst hFk
              rw [hvi] at hbk
              rw [hval j oj ej hoj] at hbj
              have hAj' := hal j ej hAj
              rcases hfoot b hbk with h9 | ⟨p, hp, hpb⟩
              · have := Fj.lt _ _ b (hI.fact j oj Fj hoj hFj hAj') hbj
                omega
              · exact hnt j oj p b ej hoj hAj hp hpb Fj hFj hbj
            · rw [hval j oj ej hoj] at hbj
              rw [hval k ok ek hok'] at hbk
              exact hI.dis j k oj ok Fj Fk b hoj hok' hFj hFk hjk (hal j ej hAj) (hal k ek hAk) hbj hbk
        · intro d hd
          have hne : o.dst ≠ some d := hd i o h2' (by simp [Array.getD, hls])
          rw [put_getD _ _ _ _ hroom, if_neg hne]
          refine hI.rest d (fun j oj hoj hl => hd j oj hoj ?_)
          by_cases e : j = i
          · subst e; simp [Array.getD, hls]
          · rw [getD_set_ne false (Ne.symm e)]; exact hl
        · intro j oj hoj hlj e he hb
          have key : listed.getD e.on false = true := by
            rcases hset j hlj with h4 | h4
            · subst h4
              rw [h2'] at hoj; injection hoj with hoj; subst hoj
              exact h3 e he hb
            · exact hI.down j oj hoj h4 e he hb
          have hne : e.on ≠ i := fun h => by rw [h, hf] at key; cases key
          rw [getD_set_ne false (Ne.symm hne)]; exact key
    have hthis := hop a w hI.bel hfacts
    unfold wpOp
    rw [h2]
    simp only []
    split
    · rename_i hw
      rw [if_pos hw] at hthis
      left
      refine Oper.wp_safe ?_
      exact Oper.wp_mono (K' := wpAny P .any (l ++ tl).toArray Q fuel (listed.setIfInBounds i true)) (fun a' w' ⟨v, row, e, h6, h7, h8, h9⟩ => by rw [e]; exact hstep v w' row h6 h7 h8 h9) hthis
    · rename_i hw
      rw [if_neg hw] at hthis
      exact hstep undef w none hthis.1 (World.grownBy.refl _ _) (fun b hb => by cases hb) (fun b hb => by rw [hthis.2] at hb; cases hb)

/-- A REGION THAT DRAWS ITS ORDER, operation by operation; rows that it makes may be written by who takes them over; a tail is left. -/
theorem wp_region_own {id n B : Nat} {l tl : List Oper} (Fs : List OF) (cps : List (Option Tmp)) (fl : List Bool) {Q : Exit → Act → World → Prop} {a : Act} {w w0 : World} (hm : P.follows .mixedOrders = true) (hok : okO n l tl cps fl = true) (hsz : a.tmps.size = n)
    (hB : B ≤ w0.heap.size) (hbel : Below B w0 w) (hob : obsO P (l ++ tl).toArray B w0 a l Fs cps []) (hfin : ∀ w', Below B w0 w' → finO (fun a w => seqWp P Q tl a w) l Fs fl a w') : (Code.region id (l ++ tl).toArray true).wp P Q a w := by
  have h1 := obsO_at (P := P) (B := B) l Fs cps [] [] [] rfl (fun s => .inr ⟨by simp, rfl⟩) hob
  have hnone : ∀ (m j : Nat), (Array.replicate m false).getD j false = false := fun m j => by unfold Array.getD; split <;> simp
  refine wp_region_any hm (wpAny_factsO (okO_spec hok) h1.1 hB (fun k o F c h2 h3 h3' => ?_) hsz hfin _ _ a _ ⟨List.range l.length, List.nodup_range, fun i => ?_, by simp⟩ ⟨?_, hsz, rfl, by simp, ?_, ?_, fun _ _ => rfl, ?_⟩ (fun k hk => hnone _ _))
  · obtain ⟨lk, h4, h5⟩ := h1.2 k o F c h2 h3 h3'
    refine ⟨lk, h4, fun s => ?_⟩
    simpa using h5 s
  · simp [hnone]
  · exact hbel.drew
  · intro j o F h2 h3 h4
    have := h4.1; rw [hnone] at this; cases this
  · intro j k oj ok Fj Fk b h2 h3 h4 h5 h6 h7
    have := h7.1; rw [hnone] at this; cases this
  · intro j o h2 h4
    rw [hnone] at h4; cases h4
end
end Go.Proofs.YtlcpflaofggmeaaDoor
/- Equality in a region: arrays of integers, integers, strings, pointers against nil; operations with facts that own rows. -/
namespace Go.Proofs.YtlcpflaofggmeaaDoor
set_option maxRecDepth 40000
open Go.RowKit
section
variable {P : Program}
theorem run_part_int {e : TypeId} {k : IntKind} (he : P.underlying e = some (.int k)) (hz : (P.info? e).map (·.size) = some 1) (n : Nat) (f : Nat → Int) (i : Nat) (hi : i < n) (w : World) :
    (part e (arr n fun i => .int k (f i)) i).run P w = .ok (.int k (f i)) w := by
  have hs := sizeOf_run hz
  have ha : (arr n fun i => Value.int k (f i))[i]? = some (.int k (f i)) := arr_at _ _ i hi
  have hag : (isAgg e).run P w = .ok false w := by
    unfold isAgg
    rw [Sem.run_bind, run_underlying he w]
    rfl
  simp [part, hs, hag, ha]
theorem run_equal_arr (w : World) (t e : TypeId) (n : Nat) (k : IntKind) (f g : Nat → Int) (hu : P.underlying t = some (.array n e)) (he : P.underlying e = some (.int k)) (hz : (P.info? e).map (·.size) = some 1) :
    (Op.equal t (.agg (arr n fun i => .int k (f i))) (.agg (arr n fun i => .int k (g i)))).run P w = .ok (decide (∀ i, i < n → f i = g i)) w := by
  have hs := sizeOf_run hz
  show (Op.equalIn (9999 + 1) t _ _).run P w = _
  rw [Op.equalIn]
  simp [run_underlying hu, hs]
  have key : ∀ m o, m + o = n → (∀ i, i < o → f i = g i) → (forIn (List.range' o m) ((none, ()) : Option Bool × Unit) fun i __s => (do
      let __do_lift ← part e (arr n fun i => Value.int k (f i)) i
      let __do_lift_1 ← part e (arr n fun i => Value.int k (g i)) i
      let __do_lift ← Op.equalIn 9999 e __do_lift __do_lift_1
      if __do_lift = false then pure (ForInStep.done (some false, ())) else pure (ForInStep.yield (none, ())) : Sem (ForInStep (Option Bool × Unit)))).run P w = .ok (if (∀ i, i < n → f i = g i) then (none, ()) else (some false, ())) w := by
    intro m
    induction m with
    | zero =>
      intro o ho hlt
      rw [if_pos (fun i hi => hlt i (by omega))]
      simp
    | succ m ih =>
      intro o ho hlt
      simp only [List.range'_succ, List.forIn_cons, Sem.run_bind, run_part_int he hz n f o (by omega), run_part_int he hz n g o (by omega), Result.andThen_ok, run_equalIn_int w 9998 e k k (f o) (g o) he]
      by_cases hfg : f o = g o
      · simp only [hfg, beq_self_eq_true, Bool.true_eq_false, if_false, Sem.run_pure, Result.andThen_ok]
        exact ih (o + 1) (by omega) (fun i hi => by
          by_cases e : i = o
          · rw [e]; exact hfg
          · exact hlt i (by omega))
      · have hbf : (f o == g o) = false := by simpa using hfg
        have hno : ¬ ∀ i, i < n → f i = g i := fun h => hfg (h o (by omega))
        simp only [hbf, if_true, Sem.run_pure, Result.andThen_ok, if_neg hno]
  rw [key n 0 (by omega) (fun i hi => by omega)]
  by_cases h : ∀ i, i < n → f i = g i
  · rw [if_pos h, decide_eq_true h]; simp
  · rw [if_neg h, decide_eq_false h]; simp
theorem wpList_eqArr {w : World} {ops : Array Oper} {rest : List Oper} {o : Oper} {a : Act} {Q : Exit → Act → World → Prop} {ty rt : TypeId} {xo yo : Operand} (hgd : o.guard = none) (hop : o.op = .binOp .eql ty xo yo rt) (e : TypeId) (n : Nat) (k : IntKind) (f g : Nat → Int) (b : Bool) (hu : P.underlying ty = some (.array n e)) (he : P.underlying e = some (.int k)) (hz : (P.info? e).map (·.size) = some 1) (hq : P.eqGuardType P.depth ty = false)
    (hx : a.eval xo = .agg (arr n fun i => .int k (f i))) (hy : a.eval yo = .agg (arr n fun i => .int k (g i))) (hb : decide (∀ i, i < n → f i = g i) = b)
    (hK : wpList P ops Q rest (a.put o.dst (.bool b)) w) : wpList P ops Q (o :: rest) a w :=
  wpList_plain hgd fun _ hK' => by
    have hrun : (execOp a.eval o).run P w = .ok (.value (.bool b)) w := by
      unfold execOp
      rw [hop]
      simp only [hx, hy]
      simp [eqGuard, hq, binOp, run_equal_arr w ty e n k f g hu he hz, hb]
    unfold Oper.wp
    rw [hrun]
    exact hK' _ _ hK
section
variable {ops : Array Oper} {B : Nat} {w0 : World} {o : Oper} {lk : Tmp → SF} {ty rt : TypeId}
theorem opOb_eqArr {xo yo : Operand} (e : TypeId) (n : Nat) (k : IntKind) (f g : Nat → Int) (b : Bool) (hu : P.underlying ty = some (.array n e)) (he : P.underlying e = some (.int k)) (hz : (P.info? e).map (·.size) = some 1) (hq : P.eqGuardType P.depth ty = false) (hb : decide (∀ i, i < n → f i = g i) = b)
    (hg : o.guard = none) (hop : o.op = .binOp .eql ty xo yo rt) (hx : OpK lk xo (.agg (arr n fun i => .int k (f i)))) (hy : OpK lk yo (.agg (arr n fun i => .int k (g i)))) : opOb P ops B w0 o (SF.is (.bool b)) lk :=
  opOb_val _ hg fun a w _ hf => by
    have h1 := hx.eval hf (by rw [hop]; simp [Op.operands])
    have h2 := hy.eval hf (by rw [hop]; simp [Op.operands])
    unfold execOp
    rw [hop]
    simp only [h1, h2]
    simp [eqGuard, hq, binOp, run_equal_arr w ty e n k f g hu he hz, hb]
theorem opOb_eqInt {xo yo : Operand} (k : IntKind) (x y : Int) (b : Bool) (_he : P.underlying ty = some (.int k)) (hb : (x == y) = b)
    (hg : o.guard = none) (hop : o.op = .binOp .eql ty xo yo rt) (hx : OpK lk xo (.int k x)) (hy : OpK lk yo (.int k y)) : opOb P ops B w0 o (SF.is (.bool b)) lk :=
  opOb_val _ hg fun a w _ hf => by
    have h1 := hx.eval hf (by rw [hop]; simp [Op.operands])
    have h2 := hy.eval hf (by rw [hop]; simp [Op.operands])
    unfold execOp
    rw [hop]
    simp only [h1, h2]
    subst hb
    simp [eqGuard, go_sem]
theorem opOb_eqStr {xo yo : Operand} (x y : ByteArray) (b : Bool) (hb : (x == y) = b)
    (hg : o.guard = none) (hop : o.op = .binOp .eql ty xo yo rt) (hx : OpK lk xo (.string x)) (hy : OpK lk yo (.string y)) : opOb P ops B w0 o (SF.is (.bool b)) lk :=
  opOb_val _ hg fun a w _ hf => by
    have h1 := hx.eval hf (by rw [hop]; simp [Op.operands])
    have h2 := hy.eval hf (by rw [hop]; simp [Op.operands])
    unfold execOp
    rw [hop]
    simp only [h1, h2]
    subst hb
    rw [beq_toListBytes]
    simp [eqGuard, go_sem]
theorem str_refl (x : ByteArray) : (x == x) = true := by rw [beq_toListBytes]; simp
theorem opOb_pickT {c : Tmp} {x y : Operand} {v : Value} (hg : o.guard = none) (hop : o.op = .pick (.tmp c) x y) (hc : lk c = SF.is (.bool true)) (hx : OpK lk x v) : opOb P ops B w0 o (SF.is v) lk :=
  opOb_val _ hg fun a w _ hf => by
    have h1 := hf c (by rw [hop]; simp [Op.operands])
    rw [hc] at h1
    have h1' : a.eval (.tmp c) = .bool true := (getD_eq _ _).trans h1
    have h2 := hx.eval hf (by rw [hop]; simp [Op.operands])
    unfold execOp; rw [hop]; simp only [h1', h2]; rfl
theorem opOb_pickF {c : Tmp} {x y : Operand} {v : Value} (hg : o.guard = none) (hop : o.op = .pick (.tmp c) x y) (hc : lk c = SF.is (.bool false)) (hy : OpK lk y v) : opOb P ops B w0 o (SF.is v) lk :=
  opOb_val _ hg fun a w _ hf => by
    have h1 := hf c (by rw [hop]; simp [Op.operands])
    rw [hc] at h1
    have h1' : a.eval (.tmp c) = .bool false := (getD_eq _ _).trans h1
    have h2 := hy.eval hf (by rw [hop]; simp [Op.operands])
    unfold execOp; rw [hop]; simp only [h1', h2]; rfl
end
section
variable {ops : Array Oper} {B : Nat} {w0 : World} {o : Oper} {lk : Tmp → OF} {ty rt : TypeId}
/-- A fact without a row. -/
theorem opObO_is {v : Value} (h : opOb P ops B w0 o (SF.is v) (fun s => (lk s).toSF)) : opObO P ops B w0 o (OF.is v) lk none := by
  intro a w hb hf
  have h1 := h a w hb hf
  split
  · rename_i hw
    rw [if_pos hw] at h1
    exact Oper.wp_mono (fun a' w' ⟨v', e, h2, h3⟩ => ⟨v', none, e, h2, ⟨h3.os, h3.tape, h3.output, h3.size, fun k hk _ => h3.block k hk⟩, (fun b hb => by cases hb), (fun b hb => by cases hb)⟩) h1
  · rename_i hw
    rw [if_neg hw] at h1
    exact ⟨h1, rfl⟩
/-- Its guard says yes. -/
theorem opObO_on {dst : Option Tmp} {op : Op} {type : TypeId} {pos : String} {after : Array Edge} {j : Nat} {want : Bool} {F : OF} {cp : Option Tmp} (d : Tmp) (hj : (ops[j]?).bind (·.dst) = some d) (hlk : lk d = OF.is (.bool want))
    (h : opObO P ops B w0 ⟨dst, op, type, pos, after, none⟩ F lk cp) : opObO P ops B w0 ⟨dst, op, type, pos, after, some (j, want)⟩ F lk cp := by
  intro a w hb hf
  have h1 := hf d (by unfold Oper.looksAt; refine List.mem_append_right _ ?_; simp [hj])
  rw [hlk] at h1
  have hw : Region.wanted (⟨dst, op, type, pos, after, some (j, want)⟩ : Oper) (yielded ops a.tmps) = true := by
    have h2 : a.tmps.getD d undef = .bool want := h1
    have h3 : a.tmps[d]? = some (.bool want) := by
      rw [getD_eq] at h2
      cases h4 : a.tmps[d]? with
      | none => rw [h4] at h2; cases h2
      | some v => rw [h4] at h2; simp at h2; rw [h2]
    simp [Region.wanted, yielded, hj, h3]
  rw [if_pos hw]
  have h5 := h a w hb (fun s hs => hf s (by
    unfold Oper.looksAt at hs ⊢
    simp only [List.append_nil] at hs
    exact List.mem_append_left _ hs))
  rw [if_pos (by rfl)] at h5
  exact h5
def OpdO (lk : Tmp → OF) (o : Oper) (a : Act) (w : World) : Prop := ∀ s ∈ o.op.operands.toList.filterMap (fun | .tmp t => some t | _ => none), (lk s).F (a.tmps[s]?.getD undef) w
theorem opObO_of {F : OF} {cp : Option Tmp} (hg : o.guard = none) (h : ∀ a w, Below B w0 w → OpdO lk o a w →
    o.wp P a w (fun a' w' => ∃ v row, a' = a.put o.dst v ∧ F.F v w' ∧ w.grownBy w' row ∧
        (∀ b, row = some b → B ≤ b ∧ ∃ p, cp = some p ∧ (lk p).foot (a.tmps.getD p undef) = some b) ∧
        (∀ b, F.foot v = some b → w.heap.size ≤ b ∨ ∃ p, cp = some p ∧ (lk p).foot (a.tmps.getD p undef) = some b)) (fun _ _ _ => False)) : opObO P ops B w0 o F lk cp := by
  intro a w hb hf
  rw [if_pos (by simp [Region.wanted, hg])]
  exact h a w hb fun s hs => by rw [← getD_eq]; exact hf s (List.mem_append_left _ hs)
/-- []T{}. -/
theorem opObO_bs0 {t e : TypeId} (hg : o.guard = none) (hop : o.op = .buildSlice t 0 #[]) (hr : ∀ w : World, (Instr.buildSlice t 0 #[]).run P w = .ok (.slice (some ⟨w.heap.size, 0, none⟩) 0 0) (w.alloc (.cells #[] e))) (base : Nat) (hb : base ≤ w0.heap.size) : opObO P ops B w0 o (OF.own0 base e) lk none :=
  opObO_of hg fun a w hbel hf => by
    unfold Oper.wp execOp
    rw [hop]
    simp only [List.map_toArray, List.map_nil, Sem.run_bind, hr w, Result.andThen_ok, Sem.run_pure]
    have hbw : Below w.heap.size w (w.alloc (.cells #[] e)) := (Below.refl _ _).alloc (Nat.le_refl _) _
    exact ⟨_, none, rfl, ⟨w.heap.size, rfl, Own.new0 w base e _ (Nat.le_trans hb hbel.size)⟩, ⟨hbw.os, hbw.tape, hbw.output, hbw.size, fun k hk _ => hbw.block k hk⟩, (fun b hb => by cases hb), (fun b hb => by injection hb with hb; subst hb; exact .inl (Nat.le_refl _))⟩
/-- append([]T{}, x...). -/
theorem opObO_app0 {s : Tmp} {x : Operand} {t : TypeId} (base : Nat) {e : TypeId} {z : Value} {bytes : Nat} (hinfo : (P.info? e).map (fun i => (i.zero, i.size, i.bytes)) = some (some z, 1, bytes)) (ht : P.underlying t = some (.slice e)) (hzs : z.cells.size = 1)
    (hg : o.guard = none) (hop : o.op = .call { callee := .builtin .append, args := #[.tmp s, x], argTypes := #[t, t] }) (hs : lk s = OF.own0 base e)
    {C : Option Addr} {m cm Bx : Nat} {g : Nat → Value} (hx : OpK (fun s => (lk s).toSF) x (.slice C m cm)) (hr : ∀ w, Below B w0 w → Rd w Bx C m g) (h1 : ∀ i, i < m → (g i).oneCell' = true) (hbytes : m ≤ 9223372036854775807 ∧ m * bytes ≤ 140737488355328) (hbase : base ≤ w0.heap.size) :
    opObO P ops B w0 o (OF.own base e m g) lk (some s) :=
  opObO_of hg fun a w hbel hf => by
    obtain ⟨i, hi, hz, hsize, hby⟩ := info_parts hinfo
    have h2 := hf s (by rw [hop]; simp [Op.operands, Call.operands])
    rw [hs] at h2
    obtain ⟨b, h4, hown⟩ := h2
    have e1 : a.eval (.tmp s) = .slice (some ⟨b, 0, none⟩) 0 0 := (getD_eq _ _).trans h4
    have e2 : a.eval x = .slice C m cm := OpK.eval (o := o) (w := w) hx (fun s hs => hf s hs) (by rw [hop]; simp [Op.operands, Call.operands])
    obtain ⟨A', c', w', hrun, h5, h6⟩ := run_app0 (P := P) w base (ty := o.type) ht hi hz hsize hby hzs (cm := cm) hown (hr w hbel) h1 hbytes (Nat.le_trans hbase hbel.size)
    have hrun2 : (Builtin.append_ #[t, t] o.type #[.slice (some ⟨b, 0, none⟩) 0 0, .slice C m cm]).run P w = .ok (.slice A' m c') w' := hrun
    obtain ⟨A2, c2, w2, hrun3, _, _, h7⟩ := run_app (P := P) w base t o.type e i z bytes ht hi hz hsize hby hzs (cm := cm) hown (hr w hbel) h1 (by rw [Nat.zero_add]; exact hbytes) (Nat.le_trans hbase hbel.size)
    rw [hrun2] at hrun3
    injection hrun3 with e3 e4
    injection e3 with e5 e6 e7
    subst e5 e4
    unfold Oper.wp execOp
    simp only [hop, resolve, invoke, builtin, Sem.run_bind, Sem.run_pure, Result.andThen_ok, List.map_toArray, List.map_cons, List.map_nil, e1, e2]
    rw [hrun]
    refine ⟨_, none, rfl, ⟨A', c', rfl, h5⟩, ⟨h6.os, h6.tape, h6.output, h6.size, fun k hk _ => h6.block k hk⟩, (fun b hb => by cases hb), fun b' hb' => ?_⟩
    cases hA : A' with
    | none => subst hA; cases hb'
    | some ad =>
      subst hA
      injection hb' with hb'
      subst hb'
      rcases h7 ad rfl with h8 | h8
      · refine .inr ⟨s, rfl, ?_⟩
        rw [hs]
        have : a.tmps.getD s undef = .slice (some ⟨b, 0, none⟩) 0 0 := e1
        rw [this]
        exact h8.symm
      · exact .inl (by omega)
/-- append(s, x...), s a row of the region's own, which is taken over. -/
theorem opObO_app {s : Tmp} {x : Operand} {t : TypeId} (base : Nat) {e : TypeId} {z : Value} {bytes : Nat} (hinfo : (P.info? e).map (fun i => (i.zero, i.size, i.bytes)) = some (some z, 1, bytes)) (ht : P.underlying t = some (.slice e)) (hzs : z.cells.size = 1)
    (hg : o.guard = none) (hop : o.op = .call { callee := .builtin .append, args := #[.tmp s, x], argTypes := #[t, t] }) {n : Nat} {f : Nat → Value} (hs : lk s = OF.own base e n f) (hBb : B ≤ base)
    {C : Option Addr} {m cm Bx : Nat} {g : Nat → Value} (hx : OpK (fun s => (lk s).toSF) x (.slice C m cm)) (hr : ∀ w, Below B w0 w → Rd w Bx C m g) (h1 : ∀ i, i < m → (g i).oneCell' = true) (N : Nat) (F : Nat → Value) (hN : N = n + m) (hF : ∀ i, i < N → catF n f g i = F i)
    (hbytes : N ≤ 9223372036854775807 ∧ N * bytes ≤ 140737488355328) (hbase : base ≤ w0.heap.size) :
    opObO P ops B w0 o (OF.own base e N F) lk (some s) :=
  opObO_of hg fun a w hbel hf => by
    subst hN
    obtain ⟨i, hi, hz, hsize, hby⟩ := info_parts hinfo
    have h2 := hf s (by rw [hop]; simp [Op.operands, Call.operands])
    rw [hs] at h2
    obtain ⟨A, c, h4, hown⟩ := h2
    have e1 : a.eval (.tmp s) = .slice A n c := (getD_eq _ _).trans h4
    have e2 : a.eval x = .slice C m cm := OpK.eval (o := o) (w := w) hx (fun s hs => hf s hs) (by rw [hop]; simp [Op.operands, Call.operands])
    obtain ⟨A', c', w', hrun, h5, h6, h7⟩ := run_app (P := P) w base t o.type e i z bytes ht hi hz hsize hby hzs (cm := cm) hown (hr w hbel) h1 hbytes (Nat.le_trans hbase hbel.size)
    have hfoot : (lk s).foot (a.tmps.getD s undef) = A.map (·.block) := by
      have : a.tmps.getD s undef = .slice A n c := e1
      rw [this, hs]
      cases A <;> rfl
    unfold Oper.wp execOp
    simp only [hop, resolve, invoke, builtin, Sem.run_bind, Sem.run_pure, Result.andThen_ok, List.map_toArray, List.map_cons, List.map_nil, e1, e2]
    rw [hrun]
    refine ⟨_, A.map (·.block), rfl, ⟨A', c', rfl, h5.congr hF⟩, h6, fun b hb => ⟨?_, s, rfl, by rw [hfoot]; exact hb⟩, fun b' hb' => ?_⟩
    · cases A with
      | none => cases hb
      | some ad => injection hb with hb; subst hb; have := (hown.base_le ad rfl).1; show B ≤ ad.block; omega
    · cases hA : A' with
      | none => subst hA; cases hb'
      | some ad =>
        subst hA
        injection hb' with hb'
        subst hb'
        rcases h7 ad rfl with h8 | h8
        · exact .inr ⟨s, rfl, by rw [hfoot]; exact h8.symm⟩
        · exact .inl (by omega)
/-- A call that is handed a row of the region's own. -/
theorem opObO_fn {f : FuncId} (hent : ∀ vs w, (callFunc f vs).run P w = .ok (.enter f vs) w) {xs : Array Operand} {ts : Array TypeId} (s : Tmp) (base : Nat) (e : TypeId) (n : Nat) (g : Nat → Value) (vs : Option Addr → Nat → Array Value) {v : Value} (hg : o.guard = none)
    (hop : o.op = .call { callee := .value (.func f), args := xs, argTypes := ts }) (hs : lk s = OF.own base e n g) (hmem : .tmp s ∈ xs) (hx : ∀ a w A c, OpdO lk o a w → a.eval (.tmp s) = .slice A n c → xs.toList.map a.eval = (vs A c).toList)
    (hr : ∀ w A c, Below B w0 w → Own w base e A n c g → Calls P f (vs A c) w fun e w' => e = .returned v ∧ Below w.heap.size w w') : opObO P ops B w0 o (OF.is v) lk none :=
  opObO_of hg fun a w hbel hf => by
    have h2 := hf s (by rw [hop]; simp [Op.operands, Call.operands]; exact ⟨_, hmem, rfl⟩)
    rw [hs] at h2
    obtain ⟨A, c, h4, hown⟩ := h2
    have e1 : a.eval (.tmp s) = .slice A n c := (getD_eq _ _).trans h4
    have h5 := hx a w A c hf e1
    have hx' : xs.map (fun x => a.eval x) = vs A c := by
      apply Array.toList_inj.1
      rw [← h5]; simp
    have hrun : (execOp a.eval o).run P w = .ok (.enter f (vs A c)) w := by
      unfold execOp
      rw [hop]
      simp only [resolve]
      rw [hx']
      simp [invoke, Deferred.ofValue, Act.eval, hent]
    unfold Oper.wp
    rw [hrun]
    refine (hr w A c hbel hown).mono ?_
    rintro e' w' ⟨rfl, hb⟩
    exact ⟨v, none, rfl, rfl, ⟨hb.os, hb.tape, hb.output, hb.size, fun k hk _ => hb.block k hk⟩, (fun b hb => by cases hb), (fun b hb => by cases hb)⟩
end
end
end Go.Proofs.YtlcpflaofggmeaaDoor
/- Inequality of arrays of integers; a pointer against nil, in a region that draws its order. -/
namespace Go.Proofs.YtlcpflaofggmeaaDoor
set_option maxRecDepth 40000
open Go.RowKit
section
variable {P : Program}
theorem run_neArr {ty rt e : TypeId} {n : Nat} {k : IntKind} {f g : Nat → Int} {b : Bool} {xo yo : Operand} {o : Oper} {a : Act} (w : World) (hop : o.op = .binOp .neq ty xo yo rt) (hu : P.underlying ty = some (.array n e)) (he : P.underlying e = some (.int k)) (hz : (P.info? e).map (·.size) = some 1) (hq : P.eqGuardType P.depth ty = false)
    (hx : a.eval xo = .agg (arr n fun i => .int k (f i))) (hy : a.eval yo = .agg (arr n fun i => .int k (g i))) (hb : decide (∀ i, i < n → f i = g i) = !b) : (execOp a.eval o).run P w = .ok (.value (.bool b)) w := by
  unfold execOp
  rw [hop]
  simp only [hx, hy]
  simp [eqGuard, hq, binOp, run_equal_arr w ty e n k f g hu he hz, hb]
theorem wpList_neArr {w : World} {ops : Array Oper} {rest : List Oper} {o : Oper} {a : Act} {Q : Exit → Act → World → Prop} {ty rt : TypeId} {xo yo : Operand} (hgd : o.guard = none) (hop : o.op = .binOp .neq ty xo yo rt) (e : TypeId) (n : Nat) (k : IntKind) (f g : Nat → Int) (b : Bool) (hu : P.underlying ty = some (.array n e)) (he : P.underlying e = some (.int k)) (hz : (P.info? e).map (·.size) = some 1) (hq : P.eqGuardType P.depth ty = false)
    (hx : a.eval xo = .agg (arr n fun i => .int k (f i))) (hy : a.eval yo = .agg (arr n fun i => .int k (g i))) (hb : decide (∀ i, i < n → f i = g i) = !b)
    (hK : wpList P ops Q rest (a.put o.dst (.bool b)) w) : wpList P ops Q (o :: rest) a w :=
  wpList_plain hgd fun _ hK' => by
    unfold Oper.wp
    rw [run_neArr w hop hu he hz hq hx hy hb]
    exact hK' _ _ hK
section
variable {ops : Array Oper} {B : Nat} {w0 : World} {o : Oper} {lk : Tmp → SF} {ty rt : TypeId}
theorem opOb_neArr {xo yo : Operand} (e : TypeId) (n : Nat) (k : IntKind) (f g : Nat → Int) (b : Bool) (hu : P.underlying ty = some (.array n e)) (he : P.underlying e = some (.int k)) (hz : (P.info? e).map (·.size) = some 1) (hq : P.eqGuardType P.depth ty = false) (hb : decide (∀ i, i < n → f i = g i) = !b)
    (hg : o.guard = none) (hop : o.op = .binOp .neq ty xo yo rt) (hx : OpK lk xo (.agg (arr n fun i => .int k (f i)))) (hy : OpK lk yo (.agg (arr n fun i => .int k (g i)))) : opOb P ops B w0 o (SF.is (.bool b)) lk :=
  opOb_val _ hg fun a w _ hf => run_neArr w hop hu he hz hq (hx.eval hf (by rw [hop]; simp [Op.operands])) (hy.eval hf (by rw [hop]; simp [Op.operands])) hb
theorem opOb_eqNil {xo : Operand} (q : Addr) (hu : P.underlying ty = some (.pointer (P.pointee ty)))
    (hg : o.guard = none) (hop : o.op = .binOp .eql ty xo (.const (.pointer none)) rt) (hx : OpK lk xo (.pointer (some q))) : opOb P ops B w0 o (SF.is (.bool false)) lk :=
  opOb_val _ hg fun a w _ hf => by
    have h1 := hx.eval hf (by rw [hop]; simp [Op.operands])
    unfold execOp
    rw [hop]
    have h2 : a.eval (.const (.pointer none)) = .pointer none := rfl
    have h3 := run_eql_pointer_nil w ty (some q) hu
    simp only [h1, h2]
    simp [eqGuard, h3]
end
end
end Go.Proofs.YtlcpflaofggmeaaDoor
