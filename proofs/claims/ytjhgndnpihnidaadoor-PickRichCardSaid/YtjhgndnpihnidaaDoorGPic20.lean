/- A part of what the proofs stand on: OwnRegA, Tup, PickDrawRef. -/
import Derived.Test.YtjhgndnpihnidaaDoorGPic7
import Derived.Test.YtjhgndnpihnidaaDoorGPic19
import Derived.Test.YtjhgndnpihnidaaDoorGPic14
import Derived.Test.YtjhgndnpihnidaaDoorGPic18
/- A drawn region with appends in place, its last operations walked by hand. (Printed by a program of mine out of an own text.) -/
namespace Go.Proofs.YtjhgndnpihnidaaDoor
set_option maxRecDepth 40000
open Go.RowKit
section
variable {P : Program}
def okTlA (k : Nat) (tl : List Oper) : Bool := match tl with
  | [] => true
  | _ :: os => os.all fun o => o.after.any fun e => Region.binds .any e && decide (k ≤ e.on)
/-- The static part: l, then the tail tl; cps: what each takes over; fl: whose rows are taken over. -/
def okA (n : Nat) (l tl : List Oper) (cps : List (Option Tmp)) (fl : List Bool) : Bool :=
  okR n l.toArray && okTlA l.length tl && decide (cps.length = l.length) && decide (fl.length = l.length) &&
    l.all (fun o => match o.guard with | some (j, _) => decide (j < l.length) | none => true) &&
    (match tl with | [] => true | ol :: _ => (List.range l.length).all (fun i => (ol.after.any fun e => Region.binds .any e && e.on == i) || (List.range l.length).any (fun k => decide (i < k) && match l[k]? with | some ok => ok.after.any (fun e => Region.binds .any e && e.on == i) | none => false))) &&
    (List.range l.length).all (fun i => match l[i]?, cps[i]? with
      | some oi, some (some p) => (oi.looksAt l.toArray).contains p && (List.range l.length).all (fun k => k == i || (match l[k]? with | some ok => !(ok.looksAt l.toArray).contains p | none => true)) && (List.range l.length).any (fun j => decide (j < i) && (match l[j]? with | some oj => oj.dst == some p | none => false))
      | _, _ => true) &&
    (List.range l.length).all (fun j => match l[j]?, fl[j]? with
      | some oj, some true => (List.range l.length).any (fun i => match cps[i]? with | some (some p) => oj.dst == some p | _ => false)
      | some oj, some false => (List.range l.length).all (fun i => match cps[i]? with | some (some p) => oj.dst != some p | _ => true)
      | _, _ => true)

structure OkA (n : Nat) (l tl : List Oper) (cps : List (Option Tmp)) (fl : List Bool) : Prop where
  back : ∀ (i : Nat) oi, l[i]? = some oi → ∀ e ∈ oi.after, Region.binds .any e = true → e.on < i
  room : ∀ (i : Nat) oi d, l[i]? = some oi → oi.dst = some d → d < n
  has : ∀ (i : Nat) oi, l[i]? = some oi → oi.dst ≠ none
  two : ∀ (i j : Nat) oi oj, l[i]? = some oi → l[j]? = some oj → j < i → (∃ e ∈ oi.after, Region.binds .any e = true ∧ e.on = j) ∨ ((∀ d, oj.dst = some d → d ∉ oi.looksAt (l ++ tl).toArray) ∧ (∀ d, oi.dst = some d → d ∉ oj.looksAt (l ++ tl).toArray))
  dsts : ∀ (i j : Nat) oi oj d, l[i]? = some oi → l[j]? = some oj → oi.dst = some d → oj.dst = some d → i = j
  tail : okTlA l.length tl = true
  lastAll : ∀ ol tl', tl = ol :: tl' → ∀ j, j < l.length → (∃ e ∈ ol.after, Region.binds .any e = true ∧ e.on = j) ∨ ∃ k ok, j < k ∧ l[k]? = some ok ∧ ∃ e ∈ ok.after, Region.binds .any e = true ∧ e.on = j
  clen : cps.length = l.length
  flen : fl.length = l.length
  takes : ∀ (i : Nat) oi p, l[i]? = some oi → cps[i]? = some (some p) → p ∈ oi.looksAt (l ++ tl).toArray ∧ (∀ (k : Nat) ok, k ≠ i → l[k]? = some ok → p ∉ ok.looksAt (l ++ tl).toArray) ∧ ∃ (j : Nat) (oj : Oper), j < i ∧ l[j]? = some oj ∧ oj.dst = some p
  flag : ∀ (j : Nat) oj, l[j]? = some oj → (fl[j]? = some true → ∃ i p, i < l.length ∧ cps[i]? = some (some p) ∧ oj.dst = some p) ∧ (fl[j]? = some false → ∀ (i : Nat) p, i < l.length → cps[i]? = some (some p) → oj.dst ≠ some p)
theorem okA_spec {n : Nat} {l tl : List Oper} {cps : List (Option Tmp)} {fl : List Bool} (h : okA n l tl cps fl = true) : OkA n l tl cps fl := by
  unfold okA at h
  simp only [Bool.and_eq_true] at h
  obtain ⟨⟨⟨⟨⟨⟨⟨h1, h2⟩, h3⟩, h4⟩, h5⟩, h6⟩, h7⟩, h8⟩ := h
  have hr := okR_spec h1
  have hm : ∀ (i : Nat) oi, l[i]? = some oi → l.toArray[i]? = some oi := fun i oi h => by simpa using h
  refine ⟨fun i oi h => hr.back i oi (hm i oi h), fun i oi d h => hr.room i oi d (hm i oi h), fun i oi h => hr.has i oi (hm i oi h), ?_, fun i j oi oj d h k => hr.dsts i j oi oj d (hm i oi h) (hm j oj k), h2, ?_, by simpa using h3, by simpa using h4, ?_, ?_⟩
  · intro i j oi oj hi hj hji
    rw [looksAt_app (List.mem_of_getElem? hi) h5, looksAt_app (List.mem_of_getElem? hj) h5]
    exact hr.two i j oi oj (hm i oi hi) (hm j oj hj) hji
  · rintro ol tl' rfl j hj
    simp only [] at h6
    rw [List.all_eq_true] at h6
    have := h6 j (List.mem_range.2 hj)
    rw [Bool.or_eq_true] at this
    rcases this with this | this
    · rw [Array.any_eq_true] at this
      obtain ⟨x, hx, h9⟩ := this
      simp only [Bool.and_eq_true, beq_iff_eq] at h9
      exact .inl ⟨ol.after[x], Array.getElem_mem hx, h9⟩
    · rw [List.any_eq_true] at this
      obtain ⟨k, _, h9⟩ := this
      simp only [Bool.and_eq_true, decide_eq_true_eq] at h9
      obtain ⟨hjk, h10⟩ := h9
      cases hk : l[k]? with
      | none => rw [hk] at h10; cases h10
      | some ok =>
        rw [hk] at h10
        simp only [] at h10
        rw [Array.any_eq_true] at h10
        obtain ⟨x, hx, h11⟩ := h10
        simp only [Bool.and_eq_true, beq_iff_eq] at h11
        exact .inr ⟨k, ok, hjk, hk, ok.after[x], Array.getElem_mem hx, h11⟩
  · intro i oi p hi hc
    have hil : i < l.length := (List.getElem?_eq_some_iff.1 hi).1
    rw [List.all_eq_true] at h7
    have h9 := h7 i (List.mem_range.2 hil)
    rw [hi, hc] at h9
    simp only [Bool.and_eq_true] at h9
    obtain ⟨⟨h10, h11⟩, h12⟩ := h9
    refine ⟨by rw [looksAt_app (List.mem_of_getElem? hi) h5]; simpa using h10, fun k ok hki hk => ?_, ?_⟩
    · rw [looksAt_app (List.mem_of_getElem? hk) h5]
      have hkl : k < l.length := (List.getElem?_eq_some_iff.1 hk).1
      rw [List.all_eq_true] at h11
      have h13 := h11 k (List.mem_range.2 hkl)
      rw [hk] at h13
      simp only [Bool.or_eq_true, beq_iff_eq] at h13
      rcases h13 with h13 | h13
      · exact absurd h13 hki
      · simpa using h13
    · rw [List.any_eq_true] at h12
      obtain ⟨j, _, h13⟩ := h12
      simp only [Bool.and_eq_true, decide_eq_true_eq] at h13
      obtain ⟨h14, h15⟩ := h13
      cases hj : l[j]? with
      | none => rw [hj] at h15; cases h15
      | some oj => rw [hj] at h15; exact ⟨j, oj, h14, hj, by simpa using h15⟩
  · intro j oj hj
    have hjl : j < l.length := (List.getElem?_eq_some_iff.1 hj).1
    rw [List.all_eq_true] at h8
    have h9 := h8 j (List.mem_range.2 hjl)
    rw [hj] at h9
    refine ⟨fun hf => ?_, fun hf i p hi hc => ?_⟩
    · rw [hf] at h9
      simp only [] at h9
      rw [List.any_eq_true] at h9
      obtain ⟨i, hi, h10⟩ := h9
      cases hc : cps[i]? with
      | none => rw [hc] at h10; cases h10
      | some c =>
        rw [hc] at h10
        cases c with
        | none => cases h10
        | some p => exact ⟨i, p, List.mem_range.1 hi, hc, by simpa using h10⟩
    · rw [hf] at h9
      simp only [] at h9
      rw [List.all_eq_true] at h9
      have h10 := h9 i (List.mem_range.2 hi)
      rw [hc] at h10
      simpa using h10

/-- What is known at an operation, by the writers ahead of it. -/
theorem wpAny_factsA {l tl : List Oper} {Fs : List OF} {cps : List (Option Tmp)} {fl : List Bool} {n B : Nat} {w0 : World} {a0 : Act} {Q : Exit → Act → World → Prop} (hok : OkA n l tl cps fl) (hlen : l.length = Fs.length) (hB : B ≤ w0.heap.size)
    (hob : ∀ (k : Nat) o F c, l[k]? = some o → Fs[k]? = some F → cps[k]? = some c → ∃ lk, opObO P (l ++ tl).toArray B w0 o F lk c ∧
      ∀ s, (∃ (j : Nat) (o' : Oper) (F' : OF), j < k ∧ l[j]? = some o' ∧ Fs[j]? = some F' ∧ o'.dst = some s ∧ lk s = F') ∨ ((∀ (j : Nat) (o' : Oper), j < k → l[j]? = some o' → o'.dst ≠ some s) ∧ lk s = OF.is (a0.tmps.getD s undef)))
    (hsz : a0.tmps.size = n) (hfin : ∀ w, Below B w0 w → finO (fun a w => ∀ fuel, wpAny P .any (l ++ tl).toArray Q (fuel + tl.length) (Array.replicate l.length true ++ Array.replicate tl.length false) a w) l Fs fl a0 w) :
    ∀ (fuel : Nat) (listed : Array Bool) (a : Act) (w : World), (∃ u : List Nat, u.Nodup ∧ (∀ i, i ∈ u ↔ i < l.length ∧ listed.getD i false = false) ∧ u.length + tl.length ≤ fuel) →
      RInvO n l tl Fs cps B w0 a0 listed a w → (∀ k, l.length ≤ k → listed.getD k false = false) → wpAny P .any (l ++ tl).toArray Q fuel listed a w := by
  have ho : ∀ (i : Nat), i < l.length → (l ++ tl).toArray[i]? = l[i]? := fun i hi => by simp [List.getElem?_append_left hi]
  -- all listed: the tail
  have hend : ∀ (listed : Array Bool) (a : Act) (w : World), RInvO n l tl Fs cps B w0 a0 listed a w → (∀ i, i < l.length → listed.getD i false = true) → (fun a w => ∀ fuel, wpAny P .any (l ++ tl).toArray Q (fuel + tl.length) (Array.replicate l.length true ++ Array.replicate tl.length false) a w) a w := by
    intro listed a w hI hall
    refine finO_use l Fs fl a0 hlen hok.flen (hfin w hI.bel) (fun j o F h1 h2 h3 => hI.fact j o F h1 h2 ⟨hall j (List.getElem?_eq_some_iff.1 h1).1, fun i p oj h4 h5 h6 => ?_⟩) (hsz.trans hI.tsz.symm) hI.dfs.symm ?_ (fun j o d h1 h2 => by rw [hI.tsz]; exact hok.room j o d h1 h2)
    · rw [h1] at h4; injection h4 with h4; subst h4
      exact absurd h6 ((hok.flag j o h1).2 h3 i p (by have := (List.getElem?_eq_some_iff.1 h5).1; rw [hok.clen] at this; exact this) h5)
    · intro d hd
      exact (hI.rest d (fun j o h1 _ => hd j o h1)).symm
  have hgo : ∀ (fuel : Nat) (listed : Array Bool) (a : Act) (w : World), RInvO n l tl Fs cps B w0 a0 listed a w → (∀ k, l.length ≤ k → listed.getD k false = false) → (∀ i, i < l.length → listed.getD i false = true) → tl.length ≤ fuel → wpAny P .any (l ++ tl).toArray Q fuel listed a w := by
    intro fuel listed a w hI hno hall hf
    have he : listed = Array.replicate l.length true ++ Array.replicate tl.length false := by
      apply Array.ext
      · simp [hI.lsz]
      · intro i h1 h2
        have h3 : listed.getD i false = listed[i] := by simp [Array.getD, h1]
        rw [← h3]
        by_cases hi : i < l.length
        · rw [hall i hi]; simp [hi]
        · rw [hno i (by omega)]; simp [Array.getElem_append, hi]
    have h := hend listed a w hI hall (fuel - tl.length)
    rw [show fuel - tl.length + tl.length = fuel by omega] at h
    rw [he]; exact h
  intro fuel
  induction fuel with
  | zero =>
    intro listed a w ⟨u, _, hu, hul⟩ hI hno
    have hun : u = [] := List.eq_nil_of_length_eq_zero (by omega)
    subst hun
    refine hgo 0 listed a w hI hno (fun i hi => ?_) (by omega)
    cases hc : listed.getD i false with
    | true => rfl
    | false => exact absurd ((hu i).2 ⟨hi, hc⟩) (by simp)
  | succ fuel ih =>
    intro listed a w ⟨u, hnd, hu, hul⟩ hI hno
    by_cases hall : ∀ i, i < l.length → listed.getD i false = true
    · exact hgo (fuel + 1) listed a w hI hno hall (by omega)
    have hsz2 : listed.size = l.length + tl.length := hI.lsz
    -- some operation of l is ready
    have hex : ∃ i, i < l.length ∧ listed.getD i false = false ∧ ∀ j, j < i → listed.getD j false = true := by
      have hne : ∃ i, i < l.length ∧ listed.getD i false = false := by
        rcases Classical.not_forall.1 hall with ⟨i, hi⟩
        rw [Classical.not_imp] at hi
        exact ⟨i, hi.1, by cases h : listed.getD i false with | true => exact absurd h hi.2 | false => rfl⟩
      have : ∀ m, (∃ i, i < m ∧ i < l.length ∧ listed.getD i false = false) → ∃ i, i < l.length ∧ listed.getD i false = false ∧ ∀ j, j < i → listed.getD j false = true := by
        intro m
        induction m with
        | zero => rintro ⟨i, h, _⟩; omega
        | succ m ihm =>
          rintro ⟨i, h1, h2, h3⟩
          by_cases h4 : ∃ i', i' < m ∧ i' < l.length ∧ listed.getD i' false = false
          · exact ihm h4
          · refine ⟨i, h2, h3, fun j hj => ?_⟩
            cases h : listed.getD j false with
            | true => rfl
            | false => exact absurd ⟨j, by omega, by omega, h⟩ h4
      obtain ⟨i, h1, h2⟩ := hne
      exact this (i + 1) ⟨i, by omega, h1, h2⟩
    refine ⟨fun hr => ?_, fun i hi => ?_⟩
    · exfalso
      obtain ⟨i, h1, h2, h3⟩ := hex
      have h4 : i < listed.size := by omega
      have : i ∈ Region.ready .any (l ++ tl).toArray listed := mem_ready.2 ⟨unlisted h2 h4, l[i], by rw [ho i h1]; simp [h1], fun e he hb => h3 e.on (hok.back i l[i] (by simp [h1]) e he hb)⟩
      rw [hr] at this; cases this
    obtain ⟨h1, o, h2, h3⟩ := mem_ready.1 hi
    have hi2 : i < (l ++ tl).toArray.size := (Array.getElem?_eq_some_iff.1 h2).1
    have hil : i < l.length := by
      rcases Nat.lt_or_ge i l.length with h | hge
      · exact h
      · exfalso
        have hi3 : i < l.length + tl.length := by simpa using hi2
        have ho2 : tl[i - l.length]? = some o := by
          have h9 := h2
          simp only [List.getElem?_toArray] at h9
          rwa [List.getElem?_append_right (by omega)] at h9
        by_cases e0 : i = l.length
        · subst e0
          rw [Nat.sub_self] at ho2
          cases tl with
          | nil => simp at ho2
          | cons ol tl' =>
            simp at ho2; subst ho2
            have hall0 : ∀ d j, l.length - j = d → j < l.length → listed.getD j false = true := by
              intro d
              induction d using Nat.strongRecOn with
              | ind d ihd =>
                intro j hd hj
                rcases hok.lastAll ol tl' rfl j hj with ⟨e, he, hb, hon⟩ | ⟨k, ok, hjk, hk, e, he, hb, hon⟩
                · rw [← hon]; exact h3 e he hb
                · have hkl : k < l.length := (List.getElem?_eq_some_iff.1 hk).1
                  rw [← hon]; exact hI.down k ok hk (ihd (l.length - k) (by omega) k rfl hkl) e he hb
            exact hall (fun j hj => hall0 _ j rfl hj)
        · have htl := hok.tail
          cases tl with
          | nil => simp at ho2
          | cons ol tl' =>
            unfold okTlA at htl
            simp only [] at htl
            rw [List.all_eq_true] at htl
            have ho3 : tl'[i - l.length - 1]? = some o := by
              rw [show i - l.length = (i - l.length - 1) + 1 by omega, List.getElem?_cons_succ] at ho2; exact ho2
            have h9 := htl o (List.mem_of_getElem? ho3)
            rw [Array.any_eq_true] at h9
            obtain ⟨x, hx, h10⟩ := h9
            simp only [Bool.and_eq_true, decide_eq_true_eq] at h10
            have h11 := h3 _ (Array.getElem_mem hx) h10.1
            rw [hno _ h10.2] at h11; cases h11
    have hls : i < listed.size := by omega
    have hf : listed.getD i false = false := by simpa [Array.getD, hls] using h1
    have h2' : l[i]? = some o := by rw [← ho i hil]; exact h2
    obtain ⟨F, hF⟩ : ∃ F, Fs[i]? = some F := ⟨Fs[i]'(by omega), by simp [show i < Fs.length by omega]⟩
    obtain ⟨c, hc⟩ : ∃ c, cps[i]? = some c := ⟨cps[i]'(by rw [hok.clen]; exact hil), by simp [show i < cps.length by rw [hok.clen]; exact hil]⟩
    obtain ⟨lk, hop, hlk⟩ := hob i o F c h2' hF hc
    -- the writer of an operand lives
    have hliv : ∀ s ∈ o.looksAt (l ++ tl).toArray, ∀ (j : Nat) o', j < i → l[j]? = some o' → o'.dst = some s → Alive l cps listed j := by
      intro s hs j o' hj hoj hd
      refine ⟨?_, fun k p oj hoj' hck hdp => ?_⟩
      · rcases hok.two i j o o' h2' hoj hj with ⟨ed, he, hb, hon⟩ | ⟨h4, _⟩
        · rw [← hon]; exact h3 ed he hb
        · exact absurd hs (h4 s hd)
      · rw [hoj] at hoj'; injection hoj' with hoj'; subst hoj'
        rw [hd] at hdp; injection hdp with hdp; subst hdp
        by_cases hki : k = i
        · rw [hki]; exact hf
        · have hkl : k < l.length := by have := (List.getElem?_eq_some_iff.1 hck).1; rw [hok.clen] at this; exact this
          exact absurd hs ((hok.takes k l[k] s (by simp [hkl]) hck).2.1 i o (Ne.symm hki) h2')
    -- what its operands are known to be
    have hfacts : ∀ s ∈ o.looksAt (l ++ tl).toArray, (lk s).F (a.tmps.getD s undef) w := by
      intro s hs
      rcases hlk s with ⟨j, o', F', hj, hoj, hFj, hd, e⟩ | ⟨hno', e⟩
      · rw [e]
        have := hI.fact j o' F' hoj hFj (hliv s hs j o' hj hoj hd)
        simpa [valAt, hd] using this
      · rw [e]
        refine hI.rest s (fun j o' hoj hl hd => ?_)
        rcases Nat.lt_trichotomy j i with hji | hji | hji
        · exact hno' j o' hji hoj hd
        · subst hji; rw [hf] at hl; cases hl
        · rcases hok.two j i o' o hoj h2' hji with ⟨ed, he, hb, hon⟩ | ⟨_, h4⟩
          · have := hI.down j o' hoj hl ed he hb
            rw [hon, hf] at this; cases this
          · exact h4 s hd hs
    -- the writer of what is taken over
    have htake : ∀ p b, c = some p → (lk p).foot (a.tmps.getD p undef) = some b → ∃ (j : Nat) (oj : Oper) (Fj : OF), j < i ∧ l[j]? = some oj ∧ Fs[j]? = some Fj ∧ oj.dst = some p ∧ Alive l cps listed j ∧ Fj.foot (valAt oj a) = some b := by
      rintro p b rfl hb
      obtain ⟨t1, t2, j, oj, t3, t4, t5⟩ := hok.takes i o p h2' hc
      rcases hlk p with ⟨j', o', F', hj, hoj, hFj, hd, e⟩ | ⟨hno', _⟩
      · rw [e] at hb
        exact ⟨j', o', F', hj, hoj, hFj, hd, hliv p t1 j' o' hj hoj hd, by simpa [valAt, hd] using hb⟩
      · exact absurd t5 (hno' j oj t3 t4)
    -- the state behind it
    have hstep : ∀ v w' row, F.F v w' → w.grownBy w' row → (∀ b, row = some b → B ≤ b ∧ ∃ p, c = some p ∧ (lk p).foot (a.tmps.getD p undef) = some b) → (∀ b, F.foot v = some b → w.heap.size ≤ b ∨ ∃ p, c = some p ∧ (lk p).foot (a.tmps.getD p undef) = some b) →
        wpAny P .any (l ++ tl).toArray Q fuel (listed.setIfInBounds i true) (a.put o.dst v) w' := by
      intro v w' row hFv hgr hrow hfoot
      have hroom : ∀ t, o.dst = some t → t < a.tmps.size := fun t ht => by rw [hI.tsz]; exact hok.room i o t h2' ht
      have hset : ∀ j, (listed.setIfInBounds i true).getD j false = true → j = i ∨ listed.getD j false = true := fun j hj => by
        by_cases e : j = i
        · exact .inl e
        · rw [getD_set_ne false (Ne.symm e)] at hj; exact .inr hj
      have hal : ∀ j, j ≠ i → Alive l cps (listed.setIfInBounds i true) j → Alive l cps listed j := fun j hji h => by
        refine ⟨(hset j h.1).resolve_left hji, fun k p oj a1 a2 a3 => ?_⟩
        have := h.2 k p oj a1 a2 a3
        by_cases e : k = i
        · rw [e]; exact hf
        · rwa [getD_set_ne false (Ne.symm e)] at this
      have hval : ∀ (j : Nat) oj, j ≠ i → l[j]? = some oj → valAt oj (a.put o.dst v) = valAt oj a := fun j oj hji hoj => by
        unfold valAt
        cases hd : oj.dst with
        | none => rfl
        | some d =>
          simp only []
          rw [put_getD _ _ _ _ hroom, if_neg (fun h6 => hji (hok.dsts j i oj o d hoj h2' hd h6))]
      have hvi : valAt o (a.put o.dst v) = v := by
        unfold valAt
        cases hd : o.dst with
        | none => exact (hok.has i o h2' hd).elim
        | some d => simp only []; rw [← hd, put_getD _ _ _ _ hroom, if_pos hd]
      -- what lives behind it was not taken over by it
      have hnt : ∀ j oj p b, j ≠ i → l[j]? = some oj → Alive l cps (listed.setIfInBounds i true) j → c = some p → (lk p).foot (a.tmps.getD p undef) = some b → ∀ Fj, Fs[j]? = some Fj → Fj.foot (valAt oj a) ≠ some b := by
        intro j oj p b hji hoj hA hcp hb Fj hFj hfj
        obtain ⟨jp, op, Fp, t1, t2, t3, t4, t5, t6⟩ := htake p b hcp hb
        have hne : j ≠ jp := by
          rintro rfl
          rw [hoj] at t2; injection t2 with t2; subst t2
          have := hA.2 i p oj hoj (by rw [hc, hcp]) t4
          simp [Array.getD, hls] at this
        exact hI.dis j jp oj op Fj Fp b hoj t2 hFj t3 hne (hal j hji hA) t5 hfj t6
      have hbw : Below B w w' := by
        refine ⟨hgr.os, hgr.tape, hgr.output, hgr.size, fun k hk => hgr.block k ?_ (fun e => ?_)⟩
        · have := hI.bel.size; omega
        · have := (hrow k e.symm).1; omega
      refine ih _ _ _ ⟨u.erase i, hnd.erase i, fun k => ?_, ?_⟩ ?_ (fun k hk => by rw [getD_set_ne false (show i ≠ k by omega)]; exact hno k hk)
      · rw [hnd.mem_erase_iff, hu k]
        constructor
        · rintro ⟨hki, hkl, hkf⟩
          exact ⟨hkl, by rw [getD_set_ne false (Ne.symm hki)]; exact hkf⟩
        · rintro ⟨hkl, hkf⟩
          have hki : k ≠ i := by
            rintro rfl
            simp [Array.getD, hls] at hkf
          exact ⟨hki, hkl, by rw [getD_set_ne false (Ne.symm hki)] at hkf; exact hkf⟩
      · have hiu : i ∈ u := (hu i).2 ⟨hil, hf⟩
        have := List.length_pos_of_mem hiu
        rw [List.length_erase_of_mem hiu]; omega
      · refine ⟨hI.bel.trans hbw, ?_, ?_, by simpa using hI.lsz, ?_, ?_, ?_, ?_⟩
        · rw [← hI.tsz]; cases o.dst <;> simp [Act.put]
        · rw [← hI.dfs]; cases o.dst <;> simp [Act.put]
        · intro j oj Fj hoj hFj hA
          by_cases e : j = i
          · subst e
            rw [h2'] at hoj; injection hoj with hoj; subst hoj
            rw [hF] at hFj; injection hFj with hFj; subst hFj
            rw [hvi]; exact hFv
          · rw [hval j oj e hoj]
            refine Fj.st _ _ _ row (hI.fact j oj Fj hoj hFj (hal j e hA)) hgr (fun b hb hr => ?_)
            obtain ⟨_, p, hp, hpb⟩ := hrow b hr
            exact hnt j oj p b e hoj hA hp hpb Fj hFj hb
        · intro j k oj ok Fj Fk b hoj hok' hFj hFk hjk hAj hAk hbj hbk
          by_cases ej : j = i
          · subst ej
            rw [h2'] at hoj; injection hoj with hoj; subst hoj
            rw [hF] at hFj; injection hFj with hFj; subst hFj
            rw [hvi] at hbj
            rw [hval k ok (Ne.symm hjk) hok'] at hbk
            have hAk' := hal k (Ne.symm hjk) hAk
            rcases hfoot b hbj with h9 | ⟨p, hp, hpb⟩
            · have := Fk.lt _ _ b (hI.fact k ok Fk hok' hFk hAk') hbk
              omega
            · exact hnt k ok p b (Ne.symm hjk) hok' hAk hp hpb Fk hFk hbk
          · by_cases ek : k = i
            · subst ek
              rw [h2'] at hok'; injection hok' with hok'; subst hok'
              rw [hF] at hFk; injection hFk with hFk; subst hFk
              rw [hvi] at hbk
              rw [hval j oj ej hoj] at hbj
              have hAj' := hal j ej hAj
              rcases hfoot b hbk with h9 | ⟨p, hp, hpb⟩
              · have := Fj.lt _ _ b (hI.fact j oj Fj hoj hFj hAj') hbj
                omega
              · exact hnt j oj p b ej hoj hAj hp hpb Fj hFj hbj
            · rw [hval j oj ej hoj] at hbj
              rw [hval k ok ek hok'] at hbk
              exact hI.dis j k oj ok Fj Fk b hoj hok' hFj hFk hjk (hal j ej hAj) (hal k ek hAk) hbj hbk
        · intro d hd
          have hne : o.dst ≠ some d := hd i o h2' (by simp [Array.getD, hls])
          rw [put_getD _ _ _ _ hroom, if_neg hne]
          refine hI.rest d (fun j oj hoj hl => hd j oj hoj ?_)
          by_cases e : j = i
          · subst e; simp [Array.getD, hls]
          · rw [getD_set_ne false (Ne.symm e)]; exact hl
        · intro j oj hoj hlj e he hb
          have key : listed.getD e.on false = true := by
            rcases hset j hlj with h4 | h4
            · subst h4
              rw [h2'] at hoj; injection hoj with hoj; subst hoj
              exact h3 e he hb
            · exact hI.down j oj hoj h4 e he hb
          have hne : e.on ≠ i := fun h => by rw [h, hf] at key; cases key
          rw [getD_set_ne false (Ne.symm hne)]; exact key
    have hthis := hop a w hI.bel hfacts
    unfold wpOp
    rw [h2]
    simp only []
    split
    · rename_i hw
      rw [if_pos hw] at hthis
      left
      refine Oper.wp_safe ?_
      exact Oper.wp_mono (K' := wpAny P .any (l ++ tl).toArray Q fuel (listed.setIfInBounds i true)) (fun a' w' ⟨v, row, e, h6, h7, h8, h9⟩ => by rw [e]; exact hstep v w' row h6 h7 h8 h9) hthis
    · rename_i hw
      rw [if_neg hw] at hthis
      exact hstep undef w none hthis.1 (World.grownBy.refl _ _) (fun b hb => by cases hb) (fun b hb => by rw [hthis.2] at hb; cases hb)

theorem wp_region_ownA {id n B : Nat} {l tl : List Oper} (Fs : List OF) (cps : List (Option Tmp)) (fl : List Bool) {Q : Exit → Act → World → Prop} {a : Act} {w w0 : World} (hm : P.follows .mixedOrders = true) (hok : okA n l tl cps fl = true) (hsz : a.tmps.size = n)
    (hB : B ≤ w0.heap.size) (hbel : Below B w0 w) (hob : obsO P (l ++ tl).toArray B w0 a l Fs cps []) (hfin : ∀ w', Below B w0 w' → finO (fun a w => ∀ fuel, wpAny P .any (l ++ tl).toArray Q (fuel + tl.length) (Array.replicate l.length true ++ Array.replicate tl.length false) a w) l Fs fl a w') : (Code.region id (l ++ tl).toArray true).wp P Q a w := by
  have h1 := obsO_at (P := P) (B := B) l Fs cps [] [] [] rfl (fun s => .inr ⟨by simp, rfl⟩) hob
  have hnone : ∀ (m j : Nat), (Array.replicate m false).getD j false = false := fun m j => by unfold Array.getD; split <;> simp
  refine wp_region_any hm (wpAny_factsA (okA_spec hok) h1.1 hB (fun k o F c h2 h3 h3' => ?_) hsz hfin _ _ a _ ⟨List.range l.length, List.nodup_range, fun i => ?_, by simp⟩ ⟨?_, hsz, rfl, by simp, ?_, ?_, fun _ _ => rfl, ?_⟩ (fun k hk => hnone _ _))
  · obtain ⟨lk, h4, h5⟩ := h1.2 k o F c h2 h3 h3'
    refine ⟨lk, h4, fun s => ?_⟩
    simpa using h5 s
  · simp [hnone]
  · exact hbel.drew
  · intro j o F h2 h3 h4
    have := h4.1; rw [hnone] at this; cases this
  · intro j k oj ok Fj Fk b h2 h3 h4 h5 h6 h7
    have := h7.1; rw [hnone] at this; cases this
  · intro j o h2 h4
    rw [hnone] at h4; cases h4
end
end Go.Proofs.YtjhgndnpihnidaaDoor
/- Calls in drawn regions that yield a list and a number. -/
namespace Go.Proofs.YtjhgndnpihnidaaDoor
set_option maxRecDepth 40000
open Go.RowKit
def SF.tup (base : Nat) (e : TypeId) (z n : Nat) (f : Nat → Value) (k : Int) : SF := ⟨fun v w => ∃ A c, v = .tuple #[.slice A n c, .int .i64 k] ∧ OwnZ w base e z A n c f, fun _ _ _ ⟨A, c, e1, h⟩ hb => ⟨A, c, e1, h.all hb⟩⟩
section
variable {P : Program} {ops : Array Oper} {B : Nat} {w0 : World} {o : Oper} {lk : Tmp → SF} {base : Nat} {e : TypeId} {z n : Nat} {f : Nat → Value} {k : Int}
theorem opOb_ext0 {x : Tmp} (hg : o.guard = none) (hop : o.op = .extract (.tmp x) 0) (hx : lk x = SF.tup base e z n f k) : opOb P ops B w0 o (SF.ownZ base e z n f) lk :=
  opOb_of hg fun a w _ hf => by
    have h1 := hf x (by rw [hop]; simp [Op.operands])
    rw [hx] at h1
    obtain ⟨A, c, e1, h1⟩ := h1
    have h1' : a.eval (.tmp x) = .tuple #[.slice A n c, .int .i64 k] := (getD_eq _ _).trans e1
    have hrun : (execOp a.eval o).run P w = .ok (.value (.slice A n c)) w := by
      unfold execOp
      rw [hop]
      simp only [h1']
      simp [Instr.extract]
    unfold Oper.wp
    rw [hrun]
    exact ⟨_, rfl, ⟨A, c, rfl, h1⟩, Below.refl _ _⟩
theorem opOb_ext1 {x : Tmp} (hg : o.guard = none) (hop : o.op = .extract (.tmp x) 1) (hx : lk x = SF.tup base e z n f k) : opOb P ops B w0 o (SF.is (.int .i64 k)) lk :=
  opOb_of hg fun a w _ hf => by
    have h1 := hf x (by rw [hop]; simp [Op.operands])
    rw [hx] at h1
    obtain ⟨A, c, e1, h1⟩ := h1
    have h1' : a.eval (.tmp x) = .tuple #[.slice A n c, .int .i64 k] := (getD_eq _ _).trans e1
    have hrun : (execOp a.eval o).run P w = .ok (.value (.int .i64 k)) w := by
      unfold execOp
      rw [hop]
      simp only [h1']
      simp [Instr.extract]
    unfold Oper.wp
    rw [hrun]
    exact ⟨_, rfl, rfl, Below.refl _ _⟩
theorem opOb_extV {x : Tmp} {cs : Array Value} {i : Nat} {v : Value} (hg : o.guard = none) (hop : o.op = .extract (.tmp x) i) (hx : lk x = SF.is (.tuple cs)) (hi : cs[i]? = some v) : opOb P ops B w0 o (SF.is v) lk :=
  opOb_of hg fun a w _ hf => by
    have h1 := hf x (by rw [hop]; simp [Op.operands])
    rw [hx] at h1
    have h1' : a.eval (.tmp x) = .tuple cs := (getD_eq _ _).trans h1
    have hrun : (execOp a.eval o).run P w = .ok (.value v) w := by
      unfold execOp
      rw [hop]
      simp only [h1']
      simp [Instr.extract, hi]
    unfold Oper.wp
    rw [hrun]
    exact ⟨_, rfl, rfl, Below.refl _ _⟩
end
theorem Own.less {w : World} {base base' : Nat} {e : TypeId} {A : Option Addr} {n c : Nat} {f : Nat → Value} (h : Own w base' e A n c f) (hb : base ≤ base') : Own w base e A n c f := by
  obtain ⟨h1, h2⟩ := h
  refine ⟨h1, ?_⟩
  rcases h2 with h2 | ⟨g, cap, cur, hv, hg, r⟩
  · exact .inl h2
  · exact .inr ⟨g, cap, cur, hv, Nat.le_trans hb hg, r⟩
section
variable {P : Program} {ops : Array Oper} {B : Nat} {w0 : World} {o : Oper} {lk : Tmp → OF}
/-- A call of two known values that makes a list. -/
theorem opObO_fn2Own {f : FuncId} (hent : ∀ vs w, (callFunc f vs).run P w = .ok (.enter f vs) w) {x y : Operand} {v1 v2 : Value} {ts : Array TypeId} (base : Nat) (e : TypeId) (n : Nat) (g : Nat → Value) (hg : o.guard = none)
    (hop : o.op = .call { callee := .value (.func f), args := #[x, y], argTypes := ts }) (hx : OpK (fun s => (lk s).toSF) x v1) (hy : OpK (fun s => (lk s).toSF) y v2)
    (hr : ∀ w, Below B w0 w → Calls P f #[v1, v2] w fun e' w' => ∃ A c, e' = .returned (.slice A n c) ∧ Own w' w.heap.size e A n c g ∧ Below w.heap.size w w') (hb : base ≤ w0.heap.size) : opObO P ops B w0 o (OF.own base e n g) lk none :=
  opObO_of hg fun a w hbel hf => by
    have h1 := hx.eval (o := o) (a := a) (w := w) hf (by rw [hop]; simp [Op.operands, Call.operands])
    have h2 := hy.eval (o := o) (a := a) (w := w) hf (by rw [hop]; simp [Op.operands, Call.operands])
    have hrun : (execOp a.eval o).run P w = .ok (.enter f #[v1, v2]) w := by
      unfold execOp
      rw [hop]
      simp only [resolve, List.map_toArray, List.map_cons, List.map_nil, h1, h2]
      simp [invoke, Deferred.ofValue, Act.eval, hent]
    unfold Oper.wp
    rw [hrun]
    refine (hr w hbel).mono ?_
    rintro e' w' ⟨A, c, rfl, ho, hb2⟩
    exact ⟨_, none, rfl, ⟨A, c, rfl, ho.less (Nat.le_trans hb hbel.size)⟩, ⟨hb2.os, hb2.tape, hb2.output, hb2.size, fun k hk _ => hb2.block k hk⟩, (fun b hb => by cases hb), (fun b hb => by
      cases A with
      | none => cases hb
      | some ad => injection hb with hb; subst hb; exact .inl (ho.base_le ad rfl).1)⟩
end
end Go.Proofs.YtjhgndnpihnidaaDoor
/- The walk of the reference's draw. (Printed by a program of mine.) -/
namespace Go.Proofs.YtjhgndnpihnidaaDoor
set_option maxRecDepth 40000
open Go.RowKit
theorem ent_placeR (vs : Array Value) (w : World) : (callFunc 72 vs).run Tryd.prog w = .ok (.enter 72 vs) w := by kernel_rfl
open PickDraw ShufRef in
set_option maxHeartbeats 16000000 in
theorem draw_ref (F : Nat → Value) (AV : Option Addr) (nV cV : Nat) (VV : Nat → Value) (A : Option Addr) (n c : Nat) (l s : Nat → Nat) (hs : ∀ i, s i < 256) (want : Nat) (hw1 : 1 ≤ want) (hw2 : want ≤ 256) (w : World) (hV : VOk w w.heap.size F AV nV cV VV) (hL : Rd w w.heap.size A n (u64v l)) (hl : ∀ q, q < n → l q < nV) (hn : n ≤ 65536) (hp : RefPkg w) :
    Calls Tryd.prog 52 #[.agg (arr 1957 F), .slice A n c, rootV s, .int .i64 (want : Int)] w fun e w' => ∃ A' c', e = .returned (.tuple #[.slice A' (pickL (effF VV) l s n want).length c', .int .i64 (pickE (pickL (effF VV) l s n want))]) ∧ OwnZ w' w.heap.size 22 1 A' (pickL (effF VV) l s n want).length c' (u64v fun j => (pickL (effF VV) l s n want).getD j 0) ∧ Below w.heap.size w w' := by
  have HS0 := Lib.hid (HS.nil w)
  have HX := Lib.hid hL
  have HP := Lib.hid hp
  have HSl := Lib.hid hs
  have HVk := Lib.hid hV
  have HL := Lib.hid hl
  obtain ⟨t, ht⟩ : ∃ t, t = takeN (effF VV) l s n := ⟨_, rfl⟩
  obtain ⟨v, hv⟩ : ∃ v, v = candN l s n := ⟨_, rfl⟩
  obtain ⟨PL, hPL⟩ : ∃ PL, PL = pickL (effF VV) l s n want := ⟨_, rfl⟩
  have HOk := Lib.hid (show ∀ i, n ≠ 0 → i ≤ 256 → (outL t v i).length = want → PL = outL t v i from fun i h1 h2 h3 => by rw [hPL, ht, hv]; rw [ht, hv] at h3; exact pick_ok h1 h2 h3)
  have HNo := Lib.hid (show n = 0 ∨ (outL t v 256).length < want → PL = [] from fun h => by rw [hPL]; rw [ht, hv] at h; exact pick_none h)
  have HTd := Lib.hid ht
  have HVd := Lib.hid hv
  rw [← hPL]
  clear hL hp hs hV hl ht hv hPL
  go_enter Tryd.func52, Tryd.ntmps52
  go_wp2_with (first
    | (refine wpList_boxL rfl 49 _ 4 rfl rfl HS0.out 1957 F rfl ?_; intro b4 w2 hb4 hc4 hs; have HS2 := Lib.hid hs; clear hs)
    | (refine wpList_boxL rfl 24 _ 6 rfl rfl HS2.out 32 (u8v s) rfl ?_; intro b6 w3 hb6 hc6 hs; have HS3 := Lib.hid hs; clear hs))
  have h3 := HS3.out.size
  go_loopw [10, 11] (fun o10 o11 wr => ∃ (i m : Nat) (A' : Option Addr) (c' : Nat), o10 = .slice A' m c' ∧ o11 = .int .u64 ((i : Nat) : Int) ∧ i ≤ 256 ∧ (n = 0 → i = 0) ∧ m = (outL t v i).length ∧ m < want ∧ OwnZ wr w3.heap.size 22 1 A' m c' (u64v (ox t v i)) ∧ Below w3.heap.size w3 wr) (fun _ ix _ => 256 - (intOf ix).toNat)
  case atStart => exact ⟨0, 0, none, 0, rfl, rfl, by omega, fun _ => rfl, rfl, by omega, OwnZ.nil _ _ _ _ _, Below.refl _ _⟩
  case round =>
    obtain ⟨i, m, A', c', rfl, rfl, hi, hi0, hmd, hmw', ho, hw⟩ := hrel
    have HO := Lib.hid ho
    have HW := Lib.hid hw
    have HMd := Lib.hid hmd
    have hsz := hw.size
    have HWr := Lib.hid ((HS3.out.out (by simp; omega)).trans (hw.mono h3))
    clear ho hw hmd
    by_cases hi2 : i < 256
    · have t1 : decide ((i : Int) < 256) = true := decide_eq_true (by omega)
      by_cases hn0 : n = 0
      · have t2 : decide ((0 : Int) < (n : Int)) = false := decide_eq_false (by omega)
        have HE := Lib.hid (HNo.out (.inl hn0))
        go_wp2_with fail
        go_ret2
        rw [HE.out]
        exact ⟨none, 0, rfl, OwnZ.nil _ _ _ _ _, HWr.out⟩
      · have t2 : decide ((0 : Int) < (n : Int)) = true := decide_eq_true (by omega)
        obtain ⟨wq, rfl⟩ : ∃ wq : World, wq = wr := ⟨_, rfl⟩
        obtain ⟨r, hr⟩ : ∃ r, i % 32 = r := ⟨_, rfl⟩
        obtain ⟨rn, hrn'⟩ : ∃ r, i % n = r := ⟨_, rfl⟩
        obtain ⟨p, hp'⟩ : ∃ p, p = placeN s n rn := ⟨_, rfl⟩
        obtain ⟨x, hx⟩ : ∃ x, x = l p := ⟨_, rfl⟩
        obtain ⟨q, hq⟩ : ∃ q, i / 32 = q := ⟨_, rfl⟩
        obtain ⟨bh, hbh⟩ : ∃ bh, bh = behN s q := ⟨_, rfl⟩
        have hr32 : r < 32 := by omega
        have hrn : rn < n := by rw [← hrn']; exact Nat.mod_lt _ (by omega)
        have hpn : p < n := by rw [hp']; exact place_lt hrn
        have HR := Lib.hid hr
        have HRn := Lib.hid hrn'
        have HQ := Lib.hid hq
        have HPp := Lib.hid hp'.symm
        have HBh := Lib.hid (show shaB (catN 32 s (leB q)) 40 = bh by rw [hbh]; rfl)
        have HCl := Lib.hid (show ∀ i, catN 32 s (leB q) i < 256 from catN_lt HSl.out (leB_lt q))
        have HXd2 := Lib.hid (show x = v i by rw [hx, HVd.out]; unfold candN; rw [hrn', hp'])
        have hxV : x < nV := by rw [hx]; exact HL.out _ hpn
        obtain ⟨aV, hAV, _, _, hvc⟩ := HVk.out.at_ hxV
        subst hAV
        obtain ⟨ad, hA, _, _⟩ := HX.out (by omega)
        subst hA
        obtain ⟨ef, hef⟩ : ∃ ef, effF VV x = ef := ⟨_, rfl⟩
        have HEf := Lib.hid hef
        obtain ⟨hcl, -⟩ := (HVk.out.sc x hxV).u64 80 (by kernel_rfl)
        have HVc : Hid (∀ w', Below w.heap.size w w' → w'.cell? ⟨(aV.add (x * 86)).block, (aV.add (x * 86)).off + 80, none⟩ = some (.int .u64 ((effF VV x : Nat) : Int))) := Lib.hid (fun w' hb => by
          obtain ⟨ad2, e2, _, _, h4⟩ := (HVk.out.below hb).at_ hxV
          injection e2 with e2
          subst e2
          rw [h4 80 (by omega) (by omega)]
          exact congrArg some hcl)
        obtain ⟨e5, he5⟩ : ∃ e5, ef * 255 % 18446744073709551616 = e5 := ⟨_, rfl⟩
        have HE5 := Lib.hid he5
        obtain ⟨lt, hlt'⟩ : ∃ lt, lotN s i = lt := ⟨_, rfl⟩
        have hlt : lt < 256 := by rw [← hlt']; exact lotN_lt s i
        have HLt := Lib.hid (show bh r = lt by rw [← hlt', hbh]; unfold lotN; rw [hq, hr])
        obtain ⟨tk, htk⟩ : ∃ tk, t i = tk := ⟨_, rfl⟩
        have HTi := Lib.hid htk
        have HTk := Lib.hid (show decide (32000000000 * lt ≤ e5) = tk by
          rw [← htk, HTd.out]
          unfold takeN
          rw [show candN l s n i = x by rw [HXd2.out, HVd.out], hlt', hef, he5])
        have HXd := Lib.hid hx
        have HPr := Lib.hid (HP.out.below HWr.out)
        have R6 := Lib.hid (row_below (HS3.out.row 0 rfl) HW.out (HS3.out.lt 0 rfl))
        have R4 := Lib.hid (row_below (HS3.out.row 1 rfl) HW.out (HS3.out.lt 1 rfl))
        have L6 := Lib.hid (ld_all R6.out R6.out.lt Tryd.underlying24 rfl (by kernel_rfl) (B := wq.heap.size))
        clear hr hrn' hx hq hvc hef he5 hlt' htk hcl hp' hbh
        go_upto_region 5 with fail
        refine wp_region_facts (B := wq.heap.size) (w0 := wq) [SF.is (.int .u64 ((i : Nat) : Int)), SF.is (.slice (some ad) (n) (c)), SF.is (.int .i64 ((n : Nat) : Int)), SF.is (.int .u64 ((n : Nat) : Int)), SF.is (.int .u64 ((rn : Nat) : Int)), SF.is (.slice (some ad) (n) (c)), SF.is (.int .i64 ((n : Nat) : Int)), SF.is (.int .u64 ((n : Nat) : Int)), SF.is (rootV s), SF.is (.tuple #[.int .u64 ((p : Nat) : Int), .int .i64 0]), SF.is (.tuple #[.int .u64 ((p : Nat) : Int), .int .i64 0]), SF.is (.int .u64 ((p : Nat) : Int)), SF.is (.int .i64 0), SF.is (.int .u64 ((p : Nat) : Int)), SF.is (.int .i64 0)] (by kernel_rfl) (by kernel_rfl) rfl (Nat.le_refl _) (Below.refl _ _) ⟨?_, ?_, ?_, ?_, ?_, ?_, ?_, ?_, ?_, ?_, ?_, ?_, ?_, ?_, ?_, trivial⟩ ?_
        · exact (opOb_move _ rfl (.inl rfl) rfl)
        · exact (opOb_move _ rfl (.inl rfl) rfl)
        · exact opOb_len Tryd.underlying37 rfl rfl (OpK.tmp rfl)
        · exact opOb_cnv rfl rfl (OpK.tmp rfl) (fun w => ShufList.cvIU n (by omega) w)
        · exact opOb_bin rfl rfl rfl (OpK.tmp rfl) (OpK.tmp rfl) (fun w => ShufRef.remK i n rn (by omega) HRn.out (by omega) w)
        · exact (opOb_move _ rfl (.inl rfl) rfl)
        · exact opOb_len Tryd.underlying37 rfl rfl (OpK.tmp rfl)
        · exact opOb_cnv rfl rfl (OpK.tmp rfl) (fun w => ShufList.cvIU n (by omega) w)
        · exact opOb_ld rfl rfl (OpK.tmp rfl) (fun w' hb => L6.out w' hb)
        · exact opOb_fn3 ent_placeR rfl rfl (OpK.tmp rfl) (OpK.tmp rfl) (OpK.tmp rfl) (fun w' hb => (placeRef_ok s HSl.out n rn w' (by omega) hrn (HPr.out.below hb)).mono fun r w'' ⟨he', hb2⟩ => ⟨_, by rw [he', HPp.out], rfl, hb2⟩)
        · exact (opOb_move _ rfl (.inl rfl) rfl)
        · exact opOb_extV rfl rfl rfl rfl
        · exact opOb_extV rfl rfl rfl rfl
        · exact (opOb_move _ rfl (.inr rfl) rfl)
        · exact (opOb_move _ rfl (.inr rfl) rfl)
        · intro w' hb
          simp only [fin, SF.is, forall_eq]
          simp only [Act.put, List.setIfInBounds_toArray, List.set_cons_succ, List.set_cons_zero]
          have HQ4 := Lib.hid hb
          have HN4 := Lib.hid (HWr.out.trans (hb.mono HWr.out.size))
          clear hb
          go_upto_region 7 with (first
            | (refine wpList_as rfl 39 rfl (.int .u64 ((q : Nat) : Int)) ?_ ?_; (· exact ex_bin rfl rfl rfl rfl (fun w => ShufRef.quoU i 32 q (by omega) HQ.out (by omega) w) _))
            | (go_at_call 51; refine (bytes_ref q _).mono ?_; rintro e w9 ⟨rfl, hb⟩; have HN9 := Lib.hid (HN4.out.trans (hb.mono HN4.out.size)); have HE9 := Lib.hid (HS.nil w9); have HQ9 := Lib.hid (HQ4.out.trans (hb.mono HQ4.out.size)); clear hb)
            | (refine wpList_allocL rfl 103 14 rfl rfl HE9.out (Array.replicate 8 (.int .u8 0)) (by kernel_rfl) 8 (u8v fun _ => 0) (by rfl) (zero_at 8 (.int .u8 0)) ?_; intro b14 wa hb14 hc14 hs; have HSa := Lib.hid hs; clear hs)
            | (refine wpList_storeH rfl 103 (.tmp 14) (.tmp 40) rfl HSa.out 0 rfl (u8v (leB q)) rfl rfl (by kernel_rfl) (fun _ _ => rfl) ?_; intro wb hs; have R14 := Lib.hid (hs.row 0 rfl); have HNb := Lib.hid (HN9.out.trans ((hs.out (by simp; omega)).mono HN9.out.size)); have HNr := Lib.hid (HQ9.out.trans ((hs.out (by simp; omega)).mono HQ9.out.size)); clear hs))
          have HNb3 := Lib.hid (HW.out.trans (HNr.out.mono HW.out.size))
          have R6b := Lib.hid (row_below (HS3.out.row 0 rfl) HNb3.out (HS3.out.lt 0 rfl))
          have HPb := Lib.hid (HP.out.below HNb.out)
          refine wp_region_own (l := [_, _, _, _, _, _, _]) (tl := [_]) (B := wb.heap.size) (w0 := wb) [OF.own0 wb.heap.size 5, OF.is (.slice (some ⟨b6, 0, none⟩) (32) (32)), OF.own wb.heap.size 5 32 (u8v s), OF.is (.slice (some ⟨b14, 0, none⟩) (8) (8)), OF.own wb.heap.size 5 40 (u8v (catN 32 s (leB q))), OF.is (rootV bh), OF.new wb.heap.size 24 32 (u8v fun _ => 0)] [none, none, some 41, none, some 43, none, none] [true, false, true, false, false, false, false] (by kernel_rfl) (by kernel_rfl) rfl (Nat.le_refl _) (Below.refl _ _) ⟨?_, ?_, ?_, ?_, ?_, ?_, ?_, trivial⟩ ?_
          · exact opObO_bs0 rfl rfl run_bs0_u8 _ (Nat.le_refl _)
          · exact opObO_is (opOb_slc rfl rfl (OpK.tmp rfl) (OpKo.no) (OpKo.no) (fun w => cut_arr Tryd.underlying24 1 (by kernel_rfl) none none (0) (32) (.inl ⟨rfl, rfl⟩) (.inl ⟨rfl, rfl⟩) (by omega) (by omega) (by omega) (by omega) (by omega) (by omega)))
          · exact opObO_app0 (s := 41) wb.heap.size u8_info Tryd.underlying39 rfl rfl rfl (by rfl) (OpK.tmp rfl) (fun w' hb => (Rd.of_row (n := 32) R6b.out (Nat.le_refl _) R6b.out.lt).below hb) (fun _ _ => rfl) (by omega) (Nat.le_refl _)
          · exact opObO_is (opOb_slc rfl rfl (OpK.tmp rfl) (OpKo.no) (OpKo.no) (fun w => cut_arr Tryd.underlying103 1 (by kernel_rfl) none none (0) (8) (.inl ⟨rfl, rfl⟩) (.inl ⟨rfl, rfl⟩) (by omega) (by omega) (by omega) (by omega) (by omega) (by omega)))
          · exact opObO_app (s := 43) wb.heap.size u8_info Tryd.underlying39 rfl rfl rfl (by rfl) (Nat.le_refl _) (OpK.tmp rfl) (fun w' hb => Rd.of_row (row_below (B := wb.heap.size) R14.out hb R14.out.lt) (Nat.le_refl _) (Nat.lt_succ_self _)) (fun _ _ => rfl) 40 (u8v (catN 32 s (leB q))) rfl (cat_Fn 32 s (leB q) 40) (by omega) (Nat.le_refl _)
          · exact opObO_fn ent_refSum 45 wb.heap.size 5 40 (u8v (catN 32 s (leB q))) (fun A c => #[.slice A 40 c]) rfl rfl (by rfl) (by simp) (fun a w A c hf e1 => by simp [e1]) (fun w' A c hb ho => (refSum_any 40 c A (catN 32 s (leB q)) w' ho.rd HCl.out (by omega) (HPb.out.below hb)).mono fun e w'' ⟨he, hb2⟩ => ⟨by rw [he, HBh.out], hb2⟩)
          · exact opObO_new wb.heap.size rfl rfl (Array.replicate 32 (.int .u8 0)) (by kernel_rfl) 32 (u8v fun _ => 0) (by rfl) (zero_at 32 (.int .u8 0)) (Nat.le_refl _)
          · intro wc hb
            simp only [finO, OF.is, OF.new, OF.own, forall_eq]
            simp only [Act.put, List.setIfInBounds_toArray, List.set_cons_succ, List.set_cons_zero]
            rintro _ _ _ ⟨A45, c45, rfl, ho45⟩ _ ⟨b15, rfl, hb15, hr15⟩
            simp only [seqWp]
            refine wp_storeL 24 (.tmp 15) (.tmp 46) rfl (HS.own hr15) 0 rfl (u8v bh) rfl rfl (by kernel_rfl) (fun _ _ => rfl) ?_
            intro wy hs
            have HY := Lib.hid (hs.row 0 rfl)
            have HW3 := Lib.hid ((HNb3.out.trans (hb.mono HNb3.out.size)).trans (hs.old (B := w3.heap.size) (Nat.le_trans HNb3.out.size hb.size) (by simp; have := HNb3.out.size; omega)))
            have HBy := Lib.hid ((HS3.out.out (by simp; omega)).trans (HW3.out.mono HS3.out.size))
            have HOy := Lib.hid (HO.out.all ((HNr.out.trans (hb.mono HNr.out.size)).trans (hs.old (B := wq.heap.size) (Nat.le_trans HNr.out.size hb.size) (by simp; have := HNr.out.size; omega))))
            clear hs hb hr15 ho45 HPb R14
            have HC51 : Hid (∀ w', Below wy.heap.size wy w' → w'.cell? (ad.add (p * 1)) = some (.int .u64 ((x : Nat) : Int))) := Lib.hid (fun w' hb => by rw [Nat.mul_one, HXd.out]; exact (HX.out.below (HBy.out.trans (hb.mono HBy.out.size))).cells hpn)
            have HC55 : Hid (∀ w', Below wy.heap.size wy w' → w'.cell? ⟨b4, 721, none⟩ = some (.slice (some aV) nV cV)) := Lib.hid (fun w' hb => by rw [← HVk.out.f]; exact (row_below (HS3.out.row 1 rfl) (HW3.out.trans (hb.mono HW3.out.size)) (HS3.out.lt 1 rfl)).cell (show 721 < 1957 by omega))
            have HC59 : Hid (∀ w', Below wy.heap.size wy w' → w'.cell? ⟨(aV.add (x * 86)).block, (aV.add (x * 86)).off + 80, none⟩ = some (.int .u64 ((ef : Nat) : Int))) := Lib.hid (fun w' hb => by rw [← HEf.out]; exact HVc.out w' (HBy.out.trans (hb.mono HBy.out.size)))
            have HC64 : Hid (∀ w', Below wy.heap.size wy w' → w'.cell? ⟨b15, 0 + r, none⟩ = some (.int .u8 ((lt : Nat) : Int))) := Lib.hid (fun w' hb => by rw [Nat.zero_add, ← HLt.out]; exact (row_below HY.out hb HY.out.lt).cell hr32)
            go_wp2_with fail
            refine wp_region_facts (B := wy.heap.size) (w0 := wy) [SF.is (.pointer (some ⟨b4, 721, none⟩)), SF.is (.slice (some aV) (nV) (cV)), SF.is (.slice (some ad) (n) (c)), SF.is (.int .u64 ((p : Nat) : Int)), SF.is (.pointer (some (ad.add (p * 1)))), SF.is (.int .u64 ((x : Nat) : Int)), SF.is (.pointer (some (aV.add (x * 86)))), SF.is (.pointer (some ⟨(aV.add (x * 86)).block, (aV.add (x * 86)).off + 80, none⟩)), SF.is (.int .u64 ((ef : Nat) : Int)), SF.is (.int .u64 ((e5 : Nat) : Int)), SF.is (.int .u64 ((i : Nat) : Int)), SF.is (.int .u64 ((r : Nat) : Int)), SF.is (.pointer (some ⟨b15, 0 + r, none⟩)), SF.is (.int .u8 ((lt : Nat) : Int)), SF.is (.int .u64 ((lt : Nat) : Int)), SF.is (.int .u64 ((32000000000 * lt : Nat) : Int)), SF.is (.bool tk)] (by kernel_rfl) (by kernel_rfl) rfl (Nat.le_refl _) (Below.refl _ _) ⟨?_, ?_, ?_, ?_, ?_, ?_, ?_, ?_, ?_, ?_, ?_, ?_, ?_, ?_, ?_, ?_, ?_, trivial⟩ ?_
            · exact opOb_fld rfl rfl (OpK.tmp rfl) (fun w => by simp [go_sem])
            · exact opOb_ld rfl rfl (OpK.tmp rfl) (fun w' hb => run_ldSl w' _ _ _ _ (HC55.out w' hb) Tryd.underlying36)
            · exact (opOb_move _ rfl (.inl rfl) rfl)
            · exact (opOb_move _ rfl (.inl rfl) rfl)
            · exact opOb_idx rfl rfl (OpK.tmp rfl) (OpK.tmp rfl) (fun w => ShufRefList.run_idxZV (z := 1) w Tryd.underlying37 (by kernel_rfl) ad hpn)
            · exact opOb_ld rfl rfl (OpK.tmp rfl) (fun w' hb => run_ld1 w' _ _ .u64 _ (HC51.out w' hb) Tryd.underlying22)
            · exact opOb_idx rfl rfl (OpK.tmp rfl) (OpK.tmp rfl) (fun w => ShufRefList.run_idxZV (z := 86) w Tryd.underlying36 (by kernel_rfl) aV hxV)
            · exact opOb_fld rfl rfl (OpK.tmp rfl) (fun w => by simp [go_sem])
            · exact opOb_ld rfl rfl (OpK.tmp rfl) (fun w' hb => run_ld1 w' _ _ .u64 _ (HC59.out w' hb) Tryd.underlying22)
            · exact opOb_bin rfl rfl rfl (OpK.tmp rfl) OpK.const (fun w => ShufLawOps.mulW ef 255 e5 HE5.out w)
            · exact (opOb_move _ rfl (.inl rfl) rfl)
            · exact opOb_bin rfl rfl rfl (OpK.tmp rfl) OpK.const (fun w => ShufRef.remK i 32 r (by omega) HR.out (by omega) w)
            · exact opOb_idx rfl rfl (OpK.tmp rfl) (OpK.tmp rfl) (fun w => (ShufFn.run_idx32 w ⟨b15, 0, none⟩ r hr32).trans (by rw [add_litO]))
            · exact opOb_ld rfl rfl (OpK.tmp rfl) (fun w' hb => run_ld1 w' _ _ .u8 _ (HC64.out w' hb) Tryd.underlying5)
            · exact opOb_cnv rfl rfl (OpK.tmp rfl) (fun w => ShufFn.cvBU lt hlt w)
            · exact opOb_bin rfl rfl rfl OpK.const (OpK.tmp rfl) (fun w => mulM lt hlt w)
            · exact opOb_bin rfl rfl rfl (OpK.tmp rfl) (OpK.tmp rfl) (fun w => geqU e5 (32000000000 * lt) tk HTk.out w)
            · intro w' hb
              simp only [fin, SF.is, forall_eq]
              simp only [Act.put, List.setIfInBounds_toArray, List.set_cons_succ, List.set_cons_zero]
              have HOz := Lib.hid (HOy.out.all hb)
              have HBz := Lib.hid hb
              have HWz := Lib.hid (HW3.out.trans (hb.mono HW3.out.size))
              have hz3 := HWz.out.size
              have HNz := Lib.hid (HS.nil w')
              clear hb
              cases tk with
              | true =>
                have HCat := Lib.hid (show ∀ q, q < (m + 1) * 1 → catF (m * 1) (u64v (ox t v i)) (fun _ => .int .u64 ((x : Nat) : Int)) q = u64v (ox t v (i + 1)) q by rw [Nat.mul_one, Nat.mul_one, HXd2.out, HMd.out]; exact ox_cat HTi.out)
                have HLen := Lib.hid (outL_lt (v := v) HTi.out)
                by_cases hmw : m + 1 = want
                · have t5 : ((m : Int) + 1 == (want : Int)) = true := by rw [beq_iff_eq]; omega
                  have HE := Lib.hid (HOk.out (i + 1) hn0 (by omega) (by rw [HLen.out, ← HMd.out]; exact hmw))
                  obtain rfl : want = m + 1 := hmw.symm
                  have H123 := Lib.hid (show PL.length = m + 1 ∧ pickE PL = 0 ∧ (fun j => PL.getD j 0) = ox t v (i + 1) by
                    have e1 : PL.length = m + 1 := by rw [HE.out, HLen.out, ← HMd.out]
                    refine ⟨e1, ?_, by rw [HE.out]; rfl⟩
                    unfold pickE; rw [if_neg (fun e => by rw [e] at e1; simp at e1)])
                  go_wp2_with (first
                    | (refine wpList_as rfl 67 rfl (.pointer (some (ad.add (p * 1)))) ?_ ?_; (· exact ex_idx rfl rfl rfl (fun w => ShufRefList.run_idxZV (z := 1) w Tryd.underlying37 (by kernel_rfl) ad hpn) _))
                    | (refine wpList_as rfl 68 rfl (.int .u64 ((x : Nat) : Int)) ?_ ?_; (· exact ex_ld1 .u64 rfl rfl Tryd.underlying22 (HC51.out _ HBz.out)))
                    | (refine wpList_bs1s rfl (.tmp 68) (.int .u64 ((x : Nat) : Int)) rfl rfl (fun w => ShufRefList.run_bs1_64 _ w) HNz.out ?_; intro b70 w5 hb70 hc70 hbl hs; have HR5 := Lib.hid (hs.row 0 rfl); have HB5 := Lib.hid hbl; clear hs hbl)
                    | (at_builtin; refine wpList_appZ _ (.tmp 64) (.tmp 69) 37 w3.heap.size (e := 22) (z := .int .u64 0) (k := 1) (bytes := 8) (by kernel_rfl) Tryd.underlying37 (by rfl) (by omega) rfl rfl (m + 1) (u64v (ox t v (i + 1))) rfl rfl (HOz.out.all HB5.out) (Rd.of_row (n := 1 * 1) HR5.out (Nat.le_refl _) HR5.out.lt) (fun _ _ => rfl) rfl HCat.out ⟨by omega, by omega⟩ (by have := HB5.out.size; omega) ?_; intro A71 c71 w6 ho hg _; have HO6 := Lib.hid ho; have HW6 := Lib.hid (below_app (HWz.out.trans (HB5.out.mono hz3)) hg (by have := HB5.out.size; omega) (fun ad e => (HOz.out.base_le ad e).1)); clear ho hg))
                  go_ret2
                  rw [H123.out.1, H123.out.2.1]
                  exact ⟨A71, c71, rfl, (HO6.out.mono HS3.out.size).congr (fun q _ => congrArg (fun m : Nat => Value.int .u64 (m : Int)) (congrFun H123.out.2.2.symm q)), (HS3.out.out (by simp; omega)).trans (HW6.out.mono HS3.out.size)⟩
                · have t5 : (((m + 1 : Nat) : Int) == (want : Int)) = false := by rw [beq_eq_false_iff_ne]; omega
                  go_wp2_with (first
                    | (refine wpList_as rfl 67 rfl (.pointer (some (ad.add (p * 1)))) ?_ ?_; (· exact ex_idx rfl rfl rfl (fun w => ShufRefList.run_idxZV (z := 1) w Tryd.underlying37 (by kernel_rfl) ad hpn) _))
                    | (refine wpList_as rfl 68 rfl (.int .u64 ((x : Nat) : Int)) ?_ ?_; (· exact ex_ld1 .u64 rfl rfl Tryd.underlying22 (HC51.out _ HBz.out)))
                    | (refine wpList_bs1s rfl (.tmp 68) (.int .u64 ((x : Nat) : Int)) rfl rfl (fun w => ShufRefList.run_bs1_64 _ w) HNz.out ?_; intro b70 w5 hb70 hc70 hbl hs; have HR5 := Lib.hid (hs.row 0 rfl); have HB5 := Lib.hid hbl; clear hs hbl)
                    | (at_builtin; refine wpList_appZ _ (.tmp 64) (.tmp 69) 37 w3.heap.size (e := 22) (z := .int .u64 0) (k := 1) (bytes := 8) (by kernel_rfl) Tryd.underlying37 (by rfl) (by omega) rfl rfl (m + 1) (u64v (ox t v (i + 1))) rfl rfl (HOz.out.all HB5.out) (Rd.of_row (n := 1 * 1) HR5.out (Nat.le_refl _) HR5.out.lt) (fun _ _ => rfl) rfl HCat.out ⟨by omega, by omega⟩ (by have := HB5.out.size; omega) ?_; intro A71 c71 w6 ho hg _; have HO6 := Lib.hid ho; have HW6 := Lib.hid (below_app (HWz.out.trans (HB5.out.mono hz3)) hg (by have := HB5.out.size; omega) (fun ad e => (HOz.out.base_le ad e).1)); clear ho hg)
                    | (refine wpList_as rfl 24 rfl (.int .u64 ((i + 1 : Nat) : Int)) ?_ ?_; (· exact ex_bin rfl rfl rfl rfl (fun w => ShufFn.addU i 1 w (by omega)) _)))
                  go_roundw
                  case rel => exact ⟨i + 1, m + 1, A71, c71, rfl, rfl, by omega, fun h => absurd h hn0, by rw [HLen.out, HMd.out], by omega, HO6.out, HW6.out⟩
                  case measure => simp [intOf]; omega
              | false =>
                have HOx := Lib.hid (ox_f (v := v) HTi.out)
                have HLen := Lib.hid (outL_lf (v := v) HTi.out)
                have t5 : ((m : Int) == (want : Int)) = false := by rw [beq_eq_false_iff_ne]; omega
                go_wp2_with (first
                  | (refine wpList_as rfl 24 rfl (.int .u64 ((i + 1 : Nat) : Int)) ?_ ?_; (· exact ex_bin rfl rfl rfl rfl (fun w => ShufFn.addU i 1 w (by omega)) _)))
                go_roundw
                case rel => exact ⟨i + 1, m, A', c', rfl, rfl, by omega, fun h => absurd h hn0, by rw [HLen.out, HMd.out], hmw', by rw [HOx.out]; exact HOz.out, HWz.out⟩
                case measure => simp [intOf]; omega
    · have t1 : decide ((i : Int) < 256) = false := decide_eq_false (by omega)
      have HE := Lib.hid (HNo.out (.inr (by rw [show 256 = i by omega, ← HMd.out]; exact hmw')))
      go_wp2_with fail
      go_ret2
      rw [HE.out]
      exact ⟨none, 0, rfl, OwnZ.nil _ _ _ _ _, HWr.out⟩
end Go.Proofs.YtjhgndnpihnidaaDoor
