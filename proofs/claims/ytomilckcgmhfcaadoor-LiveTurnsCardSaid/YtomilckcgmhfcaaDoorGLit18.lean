/- Lemmas that the proof stands on. -/
import Derived.Test.YtomilckcgmhfcaaDoorGLit10
namespace Go.Proofs.YtomilckcgmhfcaaDoor
set_option maxRecDepth 40000
set_option maxHeartbeats 64000000
open Go.RowKit
section
def okRS (n : Nat) (ops : Array Oper) : Bool :=
 Region.noSelect ops && (List.range ops.size).all fun i => match ops[i]? with
  | none => true
  | some oi =>
   oi.after.all (fun e => !Region.binds .any e || decide (e.on < i)) &&
   (match oi.dst with | some d => decide (d < n) && !(oi.looksAt ops).contains d | none => true) &&
   (List.range i).all fun j => match ops[j]? with
    | none => true
    | some oj =>
     (oi.after.any (fun e => Region.binds .any e && e.on == j) || ((match oj.dst with | some d => !(oi.looksAt ops).contains d | none => true) && (match oi.dst with | some d => !(oj.looksAt ops).contains d | none => true))) &&
     (match oj.dst, oi.dst with | some d, some d' => d != d' | _, _ => true)

structure OkRS (n : Nat) (ops : Array Oper) : Prop where
 sel : Region.noSelect ops = true
 back : ∀ (i : Nat) oi, ops[i]? = some oi → ∀ e ∈ oi.after, Region.binds .any e = true → e.on < i
 room : ∀ (i : Nat) oi d, ops[i]? = some oi → oi.dst = some d → d < n
 self : ∀ (i : Nat) oi d, ops[i]? = some oi → oi.dst = some d → d ∉ oi.looksAt ops
 two : ∀ (i j : Nat) oi oj, ops[i]? = some oi → ops[j]? = some oj → j < i → (∃ e ∈ oi.after, Region.binds .any e = true ∧ e.on = j) ∨ ((∀ d, oj.dst = some d → d ∉ oi.looksAt ops) ∧ (∀ d, oi.dst = some d → d ∉ oj.looksAt ops))
 dsts : ∀ (i j : Nat) oi oj d, ops[i]? = some oi → ops[j]? = some oj → oi.dst = some d → oj.dst = some d → i = j

theorem zqv {n : Nat} {ops : Array Oper} (h : okRS n ops = true) : OkRS n ops := by
 unfold okRS at h
 rw [Bool.and_eq_true] at h
 obtain ⟨hs, h⟩ := h
 rw [List.all_eq_true] at h
 have hi : ∀ (i : Nat) oi, ops[i]? = some oi → _ := fun i oi ho => by
  have hlt : i < ops.size := (Array.getElem?_eq_some_iff.1 ho).1
  have := h i (List.mem_range.2 hlt)
  rw [ho] at this
  simp only [Bool.and_eq_true] at this
  exact this
 have hd : ∀ (i j : Nat) oi oj d, j < i → ops[i]? = some oi → ops[j]? = some oj → oi.dst = some d → oj.dst = some d → False := by
  intro i j oi oj d hji hoi hoj hdi hdj
  have h1 := (hi i oi hoi).2
  rw [List.all_eq_true] at h1
  have h2 := h1 j (List.mem_range.2 hji)
  rw [hoj] at h2
  simp [hdi, hdj] at h2
 refine ⟨hs, ?_, ?_, ?_, ?_, ?_⟩
 ·intro i oi ho e he hb
  have h1 := (hi i oi ho).1.1
  rw [Array.all_eq_true_iff_forall_mem] at h1
  have h2 := h1 e he
  simpa [hb] using h2
 ·intro i oi d ho hdd
  have h1 := (hi i oi ho).1.2
  simp [hdd] at h1
  exact h1.1
 ·intro i oi d ho hdd
  have h1 := (hi i oi ho).1.2
  simp [hdd] at h1
  exact h1.2
 ·intro i j oi oj hoi hoj hji
  have h1 := (hi i oi hoi).2
  rw [List.all_eq_true] at h1
  have h2 := h1 j (List.mem_range.2 hji)
  rw [hoj] at h2
  simp only [Bool.and_eq_true, Bool.or_eq_true] at h2
  rcases h2.1 with h3 | h3
  ·rw [Array.any_eq_true] at h3
   obtain ⟨x, hx, h4⟩ := h3
   simp only [Bool.and_eq_true, beq_iff_eq] at h4
   exact .inl ⟨oi.after[x], Array.getElem_mem hx, h4⟩
  ·refine .inr ⟨fun d hdd => ?_, fun d hdd => ?_⟩
   ·have := h3.1; simpa [hdd] using this
   ·have := h3.2; simpa [hdd] using this
 ·intro i j oi oj d hoi hoj hdi hdj
  rcases Nat.lt_trichotomy i j with h1 | h1 | h1
  ·exact (hd j i oj oi d h1 hoj hoi hdj hdi).elim
  ·exact h1
  ·exact (hd i j oi oj d h1 hoi hoj hdi hdj).elim
end
section
variable {P : Program}
def opObQ (P : Program) (ops : Array Oper) (B : Nat) (w0 : World) (o : Oper) (F : OF) (lk : Tmp → OF) (cp : Option Tmp) : Prop :=
 ∀ a w, Below B w0 w → (∀ s ∈ o.looksAt ops, (lk s).F (a.tmps.getD s undef) w) →
  if Region.wanted o (yielded ops a.tmps) = true then o.wp P a w (fun a' w' => ∃ v row, a' = a.put o.dst v ∧ F.F v w' ∧ w.grownBy w' row ∧
   (∀ b, row = some b → B ≤ b ∧ ∃ p, cp = some p ∧ (lk p).foot (a.tmps.getD p undef) = some b) ∧
   (∀ b, F.foot v = some b → w.heap.size ≤ b ∨ ∃ p, cp = some p ∧ (lk p).foot (a.tmps.getD p undef) = some b) ∧ (o.dst = none → ∃ p, cp = some p ∧ v = a.tmps.getD p undef)) (fun _ _ _ => False)
  else F.F undef w ∧ F.foot undef = none ∧ o.dst ≠ none
def obsQ (P : Program) (ops : Array Oper) (B : Nat) (w0 : World) (a0 : Act) : List Oper → List OF → List (Option Tmp) → List (Tmp × OF) → Prop
  | [], [], [], _ => True
  | o :: os, F :: Fs, c :: cs, E => opObQ P ops B w0 o F (lookO a0 E) c ∧ obsQ P ops B w0 a0 os Fs cs (pushO o F E)
  | _, _, _, _ => False
def finQ (Q : Act → World → Prop) : List Oper → List OF → List (Option Tmp) → List Bool → Act → World → Prop
  | o :: os, F :: Fs, c :: cs, false :: bs, a, w => (match o.dst, c with
   | none, some p => F.F (a.tmps.getD p undef) w → finQ Q os Fs cs bs a w
   | _, _ => ∀ v, F.F v w → finQ Q os Fs cs bs (a.put o.dst v) w)
  | o :: os, _ :: Fs, _ :: cs, true :: bs, a, w => ∀ v, finQ Q os Fs cs bs (a.put o.dst v) w
  | _, _, _, _, a, w => Q a w
def valAtS (o : Oper) (c : Option Tmp) (a : Act) : Value := match o.dst with
 | some d => a.tmps.getD d undef
 | none => match c with
  | some p => a.tmps.getD p undef
  | none => undef
def valJ (l : List Oper) (cps : List (Option Tmp)) (j : Nat) (a : Act) : Value := match l[j]?, cps[j]? with
 | some o, some c => valAtS o c a
 | _, _ => undef
def disQ (l : List Oper) (Fs : List OF) (cps : List (Option Tmp)) (fl : List Bool) (a : Act) : Prop := ∀ (j k : Nat) Fj Fk b, fl[j]? = some false → fl[k]? = some false → Fs[j]? = some Fj → Fs[k]? = some Fk → j ≠ k → Fj.foot (valJ l cps j a) = some b → Fk.foot (valJ l cps k a) ≠ some b

def okQ (n : Nat) (l tl : List Oper) (cps : List (Option Tmp)) (fl : List Bool) : Bool :=
 okRS n l.toArray && okTl l.length 0 tl && decide (cps.length = l.length) && decide (fl.length = l.length) &&
   l.all (fun o => match o.guard with | some (j, _) => decide (j < l.length) | none => true) &&
   (match tl with | [] => true | ol :: _ => (List.range l.length).all (fun i => (ol.after.any fun e => Region.binds .any e && e.on == i) || (List.range l.length).any (fun k => decide (i < k) && match l[k]? with | some ok => ok.after.any (fun e => Region.binds .any e && e.on == i) | none => false))) &&
   (List.range l.length).all (fun i => match l[i]?, cps[i]? with
    | some oi, some (some p) => (oi.looksAt l.toArray).contains p && (List.range l.length).all (fun k => k == i || (match l[k]? with | some ok => !(ok.looksAt l.toArray).contains p | none => true)) && (List.range l.length).any (fun j => decide (j < i) && (match l[j]? with | some oj => oj.dst == some p | none => false))
    | _, _ => true) &&
   (List.range l.length).all (fun j => match l[j]?, fl[j]? with
    | some oj, some true => (List.range l.length).any (fun i => match cps[i]? with | some (some p) => oj.dst == some p | _ => false)
    | some oj, some false => (List.range l.length).all (fun i => match cps[i]? with | some (some p) => oj.dst != some p | _ => true)
    | _, _ => true) &&
   (List.range l.length).all (fun i => match l[i]? with | some oi => (match oi.dst, cps[i]? with | some _, _ => true | none, some (some _) => true | none, _ => false) | none => true)

structure OkQ (n : Nat) (l tl : List Oper) (cps : List (Option Tmp)) (fl : List Bool) : Prop where
 back : ∀ (i : Nat) oi, l[i]? = some oi → ∀ e ∈ oi.after, Region.binds .any e = true → e.on < i
 room : ∀ (i : Nat) oi d, l[i]? = some oi → oi.dst = some d → d < n
 has : ∀ (i : Nat) oi, l[i]? = some oi → oi.dst = none → ∃ p, cps[i]? = some (some p)
 two : ∀ (i j : Nat) oi oj, l[i]? = some oi → l[j]? = some oj → j < i → (∃ e ∈ oi.after, Region.binds .any e = true ∧ e.on = j) ∨ ((∀ d, oj.dst = some d → d ∉ oi.looksAt (l ++ tl).toArray) ∧ (∀ d, oi.dst = some d → d ∉ oj.looksAt (l ++ tl).toArray))
 dsts : ∀ (i j : Nat) oi oj d, l[i]? = some oi → l[j]? = some oj → oi.dst = some d → oj.dst = some d → i = j
 tail : okTl l.length 0 tl = true
 lastAll : ∀ ol tl', tl = ol :: tl' → ∀ j, j < l.length → (∃ e ∈ ol.after, Region.binds .any e = true ∧ e.on = j) ∨ ∃ k ok, j < k ∧ l[k]? = some ok ∧ ∃ e ∈ ok.after, Region.binds .any e = true ∧ e.on = j
 clen : cps.length = l.length
 flen : fl.length = l.length
 takes : ∀ (i : Nat) oi p, l[i]? = some oi → cps[i]? = some (some p) → p ∈ oi.looksAt (l ++ tl).toArray ∧ (∀ (k : Nat) ok, k ≠ i → l[k]? = some ok → p ∉ ok.looksAt (l ++ tl).toArray) ∧ ∃ (j : Nat) (oj : Oper), j < i ∧ l[j]? = some oj ∧ oj.dst = some p
 flag : ∀ (j : Nat) oj, l[j]? = some oj → (fl[j]? = some true → ∃ i p, i < l.length ∧ cps[i]? = some (some p) ∧ oj.dst = some p) ∧ (fl[j]? = some false → ∀ (i : Nat) p, i < l.length → cps[i]? = some (some p) → oj.dst ≠ some p)
theorem zsp {n : Nat} {l tl : List Oper} {cps : List (Option Tmp)} {fl : List Bool} (h : okQ n l tl cps fl = true) : OkQ n l tl cps fl := by
 unfold okQ at h
 simp only [Bool.and_eq_true] at h
 obtain ⟨⟨⟨⟨⟨⟨⟨⟨h1, h2⟩, h3⟩, h4⟩, h5⟩, h6⟩, h7⟩, h8⟩, hx⟩ := h
 have hr := zqv h1
 have hm : ∀ (i : Nat) oi, l[i]? = some oi → l.toArray[i]? = some oi := fun i oi h => by simpa using h
 refine ⟨fun i oi h => hr.back i oi (hm i oi h), fun i oi d h => hr.room i oi d (hm i oi h), ?_, ?_, fun i j oi oj d h k => hr.dsts i j oi oj d (hm i oi h) (hm j oj k), h2, ?_, by simpa using h3, by simpa using h4, ?_, ?_⟩
 ·intro i oi hi hd
  have hil : i < l.length := (List.getElem?_eq_some_iff.1 hi).1
  rw [List.all_eq_true] at hx
  have h9 := hx i (List.mem_range.2 hil)
  rw [hi] at h9
  simp only [hd] at h9
  cases hc : cps[i]? with
  | none => rw [hc] at h9; cases h9
  | some c =>
   rw [hc] at h9
   cases c with
   | none => cases h9
   | some p => exact ⟨p, rfl⟩
 ·intro i j oi oj hi hj hji
  rw [ze6 (List.mem_of_getElem? hi) h5, ze6 (List.mem_of_getElem? hj) h5]
  exact hr.two i j oi oj (hm i oi hi) (hm j oj hj) hji
 ·rintro ol tl' rfl j hj
  simp only [] at h6
  rw [List.all_eq_true] at h6
  have := h6 j (List.mem_range.2 hj)
  rw [Bool.or_eq_true] at this
  rcases this with this | this
  ·rw [Array.any_eq_true] at this
   obtain ⟨x, hx, h9⟩ := this
   simp only [Bool.and_eq_true, beq_iff_eq] at h9
   exact .inl ⟨ol.after[x], Array.getElem_mem hx, h9⟩
  ·rw [List.any_eq_true] at this
   obtain ⟨k, _, h9⟩ := this
   simp only [Bool.and_eq_true, decide_eq_true_eq] at h9
   obtain ⟨hjk, h10⟩ := h9
   cases hk : l[k]? with
   | none => rw [hk] at h10; cases h10
   | some ok =>
    rw [hk] at h10
    simp only [] at h10
    rw [Array.any_eq_true] at h10
    obtain ⟨x, hx, h11⟩ := h10
    simp only [Bool.and_eq_true, beq_iff_eq] at h11
    exact .inr ⟨k, ok, hjk, hk, ok.after[x], Array.getElem_mem hx, h11⟩
 ·intro i oi p hi hc
  have hil : i < l.length := (List.getElem?_eq_some_iff.1 hi).1
  rw [List.all_eq_true] at h7
  have h9 := h7 i (List.mem_range.2 hil)
  rw [hi, hc] at h9
  simp only [Bool.and_eq_true] at h9
  obtain ⟨⟨h10, h11⟩, h12⟩ := h9
  refine ⟨by rw [ze6 (List.mem_of_getElem? hi) h5]; simpa using h10, fun k ok hki hk => ?_, ?_⟩
  ·rw [ze6 (List.mem_of_getElem? hk) h5]
   have hkl : k < l.length := (List.getElem?_eq_some_iff.1 hk).1
   rw [List.all_eq_true] at h11
   have h13 := h11 k (List.mem_range.2 hkl)
   rw [hk] at h13
   simp only [Bool.or_eq_true, beq_iff_eq] at h13
   rcases h13 with h13 | h13
   ·exact absurd h13 hki
   ·simpa using h13
  ·rw [List.any_eq_true] at h12
   obtain ⟨j, _, h13⟩ := h12
   simp only [Bool.and_eq_true, decide_eq_true_eq] at h13
   obtain ⟨h14, h15⟩ := h13
   cases hj : l[j]? with
   | none => rw [hj] at h15; cases h15
   | some oj => rw [hj] at h15; exact ⟨j, oj, h14, hj, by simpa using h15⟩
 ·intro j oj hj
  have hjl : j < l.length := (List.getElem?_eq_some_iff.1 hj).1
  rw [List.all_eq_true] at h8
  have h9 := h8 j (List.mem_range.2 hjl)
  rw [hj] at h9
  refine ⟨fun hf => ?_, fun hf i p hi hc => ?_⟩
  ·rw [hf] at h9
   simp only [] at h9
   rw [List.any_eq_true] at h9
   obtain ⟨i, hi, h10⟩ := h9
   cases hc : cps[i]? with
   | none => rw [hc] at h10; cases h10
   | some c =>
    rw [hc] at h10
    cases c with
    | none => cases h10
    | some p => exact ⟨i, p, List.mem_range.1 hi, hc, by simpa using h10⟩
  ·rw [hf] at h9
   simp only [] at h9
   rw [List.all_eq_true] at h9
   have h10 := h9 i (List.mem_range.2 hi)
   rw [hc] at h10
   simpa using h10

theorem zn8 {ops : Array Oper} {B : Nat} {w0 : World} {a0 : Act} : ∀ (os : List Oper) (Fs : List OF) (cs : List (Option Tmp)) (E : List (Tmp × OF)) (pre : List Oper) (Fp : List OF),
 pre.length = Fp.length →
 (∀ s, (∃ (j : Nat) (o : Oper) (F : OF), pre[j]? = some o ∧ Fp[j]? = some F ∧ o.dst = some s ∧ lookO a0 E s = F) ∨ ((∀ o ∈ pre, o.dst ≠ some s) ∧ lookO a0 E s = OF.is (a0.tmps.getD s undef))) →
 obsQ P ops B w0 a0 os Fs cs E → os.length = Fs.length ∧ ∀ k o F c, os[k]? = some o → Fs[k]? = some F → cs[k]? = some c → ∃ lk, opObQ P ops B w0 o F lk c ∧
  ∀ s, (∃ (j : Nat) (o' : Oper) (F' : OF), j < pre.length + k ∧ (pre ++ os)[j]? = some o' ∧ (Fp ++ Fs)[j]? = some F' ∧ o'.dst = some s ∧ lk s = F') ∨ ((∀ (j : Nat) (o' : Oper), j < pre.length + k → (pre ++ os)[j]? = some o' → o'.dst ≠ some s) ∧ lk s = OF.is (a0.tmps.getD s undef))
 | [], [], [], _, _, _, _, _, _ => ⟨rfl, fun k o F c h => by simp at h⟩
 | [], [], _ :: _, _, _, _, _, _, h => h.elim
 | [], _ :: _, _, _, _, _, _, _, h => h.elim
 | _ :: _, [], _, _, _, _, _, _, h => h.elim
 | _ :: _, _ :: _, [], _, _, _, _, _, h => h.elim
 | o :: os, F :: Fs, c :: cs, E, pre, Fp, hl, hE, h => by
  obtain ⟨h1, h2⟩ := h
  have hE' : ∀ s, (∃ (j : Nat) (o' : Oper) (F' : OF), (pre ++ [o])[j]? = some o' ∧ (Fp ++ [F])[j]? = some F' ∧ o'.dst = some s ∧ lookO a0 (pushO o F E) s = F') ∨ ((∀ o' ∈ pre ++ [o], o'.dst ≠ some s) ∧ lookO a0 (pushO o F E) s = OF.is (a0.tmps.getD s undef)) := by
   intro s
   by_cases hd : o.dst = some s
   ·refine .inl ⟨pre.length, o, F, by simp, by simp [hl], hd, ?_⟩
    simp [pushO, hd, lookO]
   ·have hp : lookO a0 (pushO o F E) s = lookO a0 E s := by
     unfold pushO
     cases hdd : o.dst with
     | none => rfl
     | some d => simp only [lookO]; rw [if_neg (fun e => hd (by rw [hdd, e]))]
    rcases hE s with ⟨j, o', F', h3, h4, h5, h6⟩ | ⟨h3, h4⟩
    ·have hj := (List.getElem?_eq_some_iff.1 h3).1
     exact .inl ⟨j, o', F', by rw [List.getElem?_append_left hj]; exact h3, by rw [List.getElem?_append_left (by omega)]; exact h4, h5, by rw [hp]; exact h6⟩
    ·refine .inr ⟨fun o' ho' => ?_, by rw [hp]; exact h4⟩
     rcases List.mem_append.1 ho' with h5 | h5
     ·exact h3 o' h5
     ·simp at h5; subst h5; exact hd
  obtain ⟨hlen, hrest⟩ := zn8 os Fs cs (pushO o F E) (pre ++ [o]) (Fp ++ [F]) (by simp [hl]) hE' h2
  refine ⟨by simp [hlen], fun k ok Fk ck hk hF hc => ?_⟩
  cases k with
  | zero =>
   simp only [List.getElem?_cons_zero, Option.some.injEq] at hk hF hc
   subst hk hF hc
   refine ⟨lookO a0 E, h1, fun s => ?_⟩
   rcases hE s with ⟨j, o', F', h3, h4, h5, h6⟩ | ⟨h3, h4⟩
   ·have hj := (List.getElem?_eq_some_iff.1 h3).1
    exact .inl ⟨j, o', F', by omega, by rw [List.getElem?_append_left hj]; exact h3, by rw [List.getElem?_append_left (by omega)]; exact h4, h5, h6⟩
   ·refine .inr ⟨fun j o' hj ho' => ?_, h4⟩
    rw [List.getElem?_append_left (by omega)] at ho'
    exact h3 o' (List.mem_of_getElem? ho')
  | succ k =>
   simp only [List.getElem?_cons_succ] at hk hF hc
   obtain ⟨lk, h3, h4⟩ := hrest k ok Fk ck hk hF hc
   refine ⟨lk, h3, fun s => ?_⟩
   have e1 : pre ++ [o] ++ os = pre ++ o :: os := by simp
   have e2 : Fp ++ [F] ++ Fs = Fp ++ F :: Fs := by simp
   have e3 : (pre ++ [o]).length + k = pre.length + (k + 1) := by simp; omega
   have h5 := h4 s
   rw [e1, e2, e3] at h5
   exact h5

theorem zmj {Q : Act → World → Prop} {w : World} {a : Act} : ∀ (os : List Oper) (Fs : List OF) (cs : List (Option Tmp)) (bs : List Bool) (b : Act), os.length = Fs.length → cs.length = os.length → bs.length = os.length → finQ Q os Fs cs bs b w →
 (∀ (j : Nat) o F c, os[j]? = some o → Fs[j]? = some F → cs[j]? = some c → bs[j]? = some false → F.F (valAtS o c a) w) → b.tmps.size = a.tmps.size → b.defers = a.defers →
 (∀ d, (∀ (j : Nat) o, os[j]? = some o → o.dst ≠ some d) → b.tmps.getD d undef = a.tmps.getD d undef) →
 (∀ (j : Nat) o d, os[j]? = some o → o.dst = some d → d < a.tmps.size) →
 (∀ (j : Nat) o p, os[j]? = some o → o.dst = none → cs[j]? = some (some p) → ∀ (k : Nat) o', j ≤ k → os[k]? = some o' → o'.dst ≠ some p) → Q a w
 | [], [], _, _, b, _, _, _, h, _, hs, hdf, hr, _, _ => by
  have : b = a := by
   obtain ⟨bt, bd⟩ := b
   obtain ⟨at_, ad⟩ := a
   simp only at hs hdf hr
   subst hdf
   congr
   apply Array.ext hs
   intro i h1 h2
   have := hr i (by simp)
   simpa [Array.getD, h1, h2] using this
  rw [← this]; exact h
 | [], _ :: _, _, _, _, hl, _, _, _, _, _, _, _, _, _ => by simp at hl
 | _ :: _, [], _, _, _, hl, _, _, _, _, _, _, _, _, _ => by simp at hl
 | _ :: _, _ :: _, [], _, _, _, hc, _, _, _, _, _, _, _, _ => by simp at hc
 | _ :: _, _ :: _, _ :: _, [], _, _, _, hl, _, _, _, _, _, _, _ => by simp at hl
 | o :: os, F :: Fs, cc :: cs, c :: bs, b, hl, hlc, hl2, h, hF, hs, hdf, hr, hroom, hst => by
  have hlt : ∀ t, o.dst = some t → t < b.tmps.size := fun t ht => by rw [hs]; exact hroom 0 o t rfl ht
  have hnext : finQ Q os Fs cs bs (b.put o.dst (valAtS o cc a)) w := by
   cases c with
   | false =>
    have hF0 := hF 0 o F cc rfl rfl rfl rfl
    simp only [finQ] at h
    cases hd : o.dst with
    | some d =>
     rw [hd] at h
     exact h _ hF0
    | none =>
     rw [hd] at h
     cases cc with
     | none => exact h _ hF0
     | some p =>
      refine h ?_
      have e := hr p (fun k o' hk => hst 0 o p rfl hd rfl k o' (Nat.zero_le _) hk)
      rw [e]
      have e2 : valAtS o (some p) a = a.tmps.getD p undef := by unfold valAtS; rw [hd]
      rw [← e2]; exact hF0
   | true => exact h _
  refine zmj os Fs cs bs (b.put o.dst (valAtS o cc a)) (by simpa using hl) (by simpa using hlc) (by simpa using hl2) hnext (fun j o' F' c' h1 h2 h3 h4 => hF (j + 1) o' F' c' h1 h2 h3 h4) ?_ ?_ ?_ (fun j o' d h1 h2 => hroom (j + 1) o' d h1 h2) (fun j o' p h1 h2 h3 k o2 h4 h5 => hst (j + 1) o' p h1 h2 h3 (k + 1) o2 (by omega) h5)
  ·rw [← hs]; cases o.dst <;> simp [Act.put]
  ·rw [← hdf]; cases o.dst <;> simp [Act.put]
  ·intro d hd
   rw [zbs _ _ _ _ hlt]
   by_cases e : o.dst = some d
   ·rw [if_pos e]; simp [valAtS, e]
   ·rw [if_neg e]
    refine hr d (fun j o' hj => ?_)
    cases j with
    | zero => simp at hj; subst hj; exact e
    | succ j => exact hd j o' hj

theorem zk6 {l : List Oper} {cps : List (Option Tmp)} {j : Nat} {o : Oper} {d : Tmp} {a : Act} (hl : cps.length = l.length) (h : l[j]? = some o) (hd : o.dst = some d) : valJ l cps j a = a.tmps.getD d undef := by
 have hj := (List.getElem?_eq_some_iff.1 h).1
 obtain ⟨c, hc⟩ : ∃ c, cps[j]? = some c := ⟨cps[j]'(by omega), by simp [show j < cps.length by omega]⟩
 unfold valJ valAtS
 rw [h, hc]
 simp only [hd]
theorem zil {l : List Oper} {cps : List (Option Tmp)} {j : Nat} {o : Oper} {c : Option Tmp} {a : Act} (h : l[j]? = some o) (hc : cps[j]? = some c) : valJ l cps j a = valAtS o c a := by
 unfold valJ; rw [h, hc]
structure RInvQ (n : Nat) (l tl : List Oper) (Fs : List OF) (cps : List (Option Tmp)) (B : Nat) (w0 : World) (a0 : Act) (listed : Array Bool) (a : Act) (w : World) : Prop where
 bel : Below B w0 w
 tsz : a.tmps.size = n
 dfs : a.defers = a0.defers
 lsz : listed.size = l.length + tl.length
 fact : ∀ (j : Nat) o F, l[j]? = some o → Fs[j]? = some F → Alive l cps listed j → F.F (valJ l cps j a) w
 dis : ∀ (j k : Nat) oj ok Fj Fk b, l[j]? = some oj → l[k]? = some ok → Fs[j]? = some Fj → Fs[k]? = some Fk → j ≠ k → Alive l cps listed j → Alive l cps listed k → Fj.foot (valJ l cps j a) = some b → Fk.foot (valJ l cps k a) ≠ some b
 rest : ∀ d, (∀ (j : Nat) o, l[j]? = some o → listed.getD j false = true → o.dst ≠ some d) → a.tmps.getD d undef = a0.tmps.getD d undef
 down : ∀ (j : Nat) o, l[j]? = some o → listed.getD j false = true → ∀ e ∈ o.after, Region.binds .any e = true → listed.getD e.on false = true

theorem zmk {l tl : List Oper} {Fs : List OF} {cps : List (Option Tmp)} {fl : List Bool} {n B : Nat} {w0 : World} {a0 : Act} {Q : Exit → Act → World → Prop} (hok : OkQ n l tl cps fl) (hlen : l.length = Fs.length) (hB : B ≤ w0.heap.size)
    (hob : ∀ (k : Nat) o F c, l[k]? = some o → Fs[k]? = some F → cps[k]? = some c → ∃ lk, opObQ P (l ++ tl).toArray B w0 o F lk c ∧
     ∀ s, (∃ (j : Nat) (o' : Oper) (F' : OF), j < k ∧ l[j]? = some o' ∧ Fs[j]? = some F' ∧ o'.dst = some s ∧ lk s = F') ∨ ((∀ (j : Nat) (o' : Oper), j < k → l[j]? = some o' → o'.dst ≠ some s) ∧ lk s = OF.is (a0.tmps.getD s undef)))
    (hsz : a0.tmps.size = n) (hfin : ∀ w, Below B w0 w → finQ (fun a w => disQ l Fs cps fl a → seqWp P Q tl a w) l Fs cps fl a0 w) :
    ∀ (fuel : Nat) (listed : Array Bool) (a : Act) (w : World), (∃ u : List Nat, u.Nodup ∧ (∀ i, i ∈ u ↔ i < l.length ∧ listed.getD i false = false) ∧ u.length + tl.length ≤ fuel) →
     RInvQ n l tl Fs cps B w0 a0 listed a w → (∀ k, l.length ≤ k → listed.getD k false = false) → wpAny P .any (l ++ tl).toArray Q fuel listed a w := by
 have ho : ∀ (i : Nat), i < l.length → (l ++ tl).toArray[i]? = l[i]? := fun i hi => by simp [List.getElem?_append_left hi]
 have hend : ∀ (listed : Array Bool) (a : Act) (w : World), RInvQ n l tl Fs cps B w0 a0 listed a w → (∀ i, i < l.length → listed.getD i false = true) → seqWp P Q tl a w := by
  intro listed a w hI hall
  have hnt : ∀ j, fl[j]? = some false → j < l.length → Alive l cps listed j := fun j h3 hj => ⟨hall j hj, fun i p oj h4 h5 h6 => absurd h6 ((hok.flag j oj h4).2 h3 i p (by have := (List.getElem?_eq_some_iff.1 h5).1; rw [hok.clen] at this; exact this) h5)⟩
  refine zmj l Fs cps fl a0 hlen hok.clen hok.flen (hfin w hI.bel) (fun j o F c h1 h2 hcj h3 => ?_) (hsz.trans hI.tsz.symm) hI.dfs.symm ?_ (fun j o d h1 h2 => by rw [hI.tsz]; exact hok.room j o d h1 h2) (fun j o p h1 h2 h3 k o' hjk hk e => ?_) (fun j k Fj Fk b h1 h2 h3 h4 hjk h5 => ?_)
  ·have := hI.fact j o F h1 h2 (hnt j h3 (List.getElem?_eq_some_iff.1 h1).1)
   rwa [zil h1 hcj] at this
  ·intro d hd
   exact (hI.rest d (fun j o h1 _ => hd j o h1)).symm
  ·obtain ⟨_, _, jp, op, t3, t4, t5⟩ := hok.takes j o p h1 h3
   have := hok.dsts k jp o' op p hk t4 e t5
   omega
  ·have hj := (List.getElem?_eq_some_iff.1 h1).1
   have hk := (List.getElem?_eq_some_iff.1 h2).1
   rw [hok.flen] at hj hk
   exact hI.dis j k l[j] l[k] Fj Fk b (by simp [hj]) (by simp [hk]) h3 h4 hjk (hnt j h1 hj) (hnt k h2 hk) h5
 have hgo : ∀ (fuel : Nat) (listed : Array Bool) (a : Act) (w : World), RInvQ n l tl Fs cps B w0 a0 listed a w → (∀ k, l.length ≤ k → listed.getD k false = false) → (∀ i, i < l.length → listed.getD i false = true) → tl.length ≤ fuel → wpAny P .any (l ++ tl).toArray Q fuel listed a w := by
  intro fuel listed a w hI hno hall hf
  exact zi3 tl l.length fuel listed a w (by simp) (fun j o hj => by
   simp only [List.getElem?_toArray]
   rw [List.getElem?_append_right (by omega), show l.length + j - l.length = j by omega]; exact hj) hI.lsz hall hno hok.tail hf (hend listed a w hI hall)
 intro fuel
 induction fuel with
 | zero =>
  intro listed a w ⟨u, _, hu, hul⟩ hI hno
  have hun : u = [] := List.eq_nil_of_length_eq_zero (by omega)
  subst hun
  refine hgo 0 listed a w hI hno (fun i hi => ?_) (by omega)
  cases hc : listed.getD i false with
  | true => rfl
  | false => exact absurd ((hu i).2 ⟨hi, hc⟩) (by simp)
 | succ fuel ih =>
  intro listed a w ⟨u, hnd, hu, hul⟩ hI hno
  by_cases hall : ∀ i, i < l.length → listed.getD i false = true
  ·exact hgo (fuel + 1) listed a w hI hno hall (by omega)
  have hsz2 : listed.size = l.length + tl.length := hI.lsz
  have hex : ∃ i, i < l.length ∧ listed.getD i false = false ∧ ∀ j, j < i → listed.getD j false = true := by
   have hne : ∃ i, i < l.length ∧ listed.getD i false = false := by
    rcases Classical.not_forall.1 hall with ⟨i, hi⟩
    rw [Classical.not_imp] at hi
    exact ⟨i, hi.1, by cases h : listed.getD i false with | true => exact absurd h hi.2 | false => rfl⟩
   have : ∀ m, (∃ i, i < m ∧ i < l.length ∧ listed.getD i false = false) → ∃ i, i < l.length ∧ listed.getD i false = false ∧ ∀ j, j < i → listed.getD j false = true := by
    intro m
    induction m with
    | zero => rintro ⟨i, h, _⟩; omega
    | succ m ihm =>
     rintro ⟨i, h1, h2, h3⟩
     by_cases h4 : ∃ i', i' < m ∧ i' < l.length ∧ listed.getD i' false = false
     ·exact ihm h4
     ·refine ⟨i, h2, h3, fun j hj => ?_⟩
      cases h : listed.getD j false with
      | true => rfl
      | false => exact absurd ⟨j, by omega, by omega, h⟩ h4
   obtain ⟨i, h1, h2⟩ := hne
   exact this (i + 1) ⟨i, by omega, h1, h2⟩
  refine ⟨fun hr => ?_, fun i hi => ?_⟩
  ·exfalso
   obtain ⟨i, h1, h2, h3⟩ := hex
   have h4 : i < listed.size := by omega
   have : i ∈ Region.ready .any (l ++ tl).toArray listed := mem_ready.2 ⟨unlisted h2 h4, l[i], by rw [ho i h1]; simp [h1], fun e he hb => h3 e.on (hok.back i l[i] (by simp [h1]) e he hb)⟩
   rw [hr] at this; cases this
  obtain ⟨h1, o, h2, h3⟩ := mem_ready.1 hi
  have hi2 : i < (l ++ tl).toArray.size := (Array.getElem?_eq_some_iff.1 h2).1
  have hil : i < l.length := by
   rcases Nat.lt_or_ge i l.length with h | hge
   ·exact h
   ·exfalso
    have hi3 : i < l.length + tl.length := by simpa using hi2
    have ho2 : tl[i - l.length]? = some o := by
     have h9 := h2
     simp only [List.getElem?_toArray] at h9
     rwa [List.getElem?_append_right (by omega)] at h9
    by_cases e0 : i = l.length
    ·subst e0
     rw [Nat.sub_self] at ho2
     cases tl with
     | nil => simp at ho2
     | cons ol tl' =>
      simp at ho2; subst ho2
      have hall0 : ∀ d j, l.length - j = d → j < l.length → listed.getD j false = true := by
       intro d
       induction d using Nat.strongRecOn with
       | ind d ihd =>
        intro j hd hj
        rcases hok.lastAll ol tl' rfl j hj with ⟨e, he, hb, hon⟩ | ⟨k, ok, hjk, hk, e, he, hb, hon⟩
        ·rw [← hon]; exact h3 e he hb
        ·have hkl : k < l.length := (List.getElem?_eq_some_iff.1 hk).1
         rw [← hon]; exact hI.down k ok hk (ihd (l.length - k) (by omega) k rfl hkl) e he hb
      exact hall (fun j hj => hall0 _ j rfl hj)
    ·obtain ⟨_, _, hx⟩ := zif tl l.length 0 hok.tail _ _ ho2
     obtain ⟨e, he, hb, hon⟩ := hx (by omega)
     have h9 := h3 e he hb
     rw [hno e.on (by omega)] at h9; cases h9
  have hls : i < listed.size := by omega
  have hf : listed.getD i false = false := by simpa [Array.getD, hls] using h1
  have h2' : l[i]? = some o := by rw [← ho i hil]; exact h2
  obtain ⟨F, hF⟩ : ∃ F, Fs[i]? = some F := ⟨Fs[i]'(by omega), by simp [show i < Fs.length by omega]⟩
  obtain ⟨c, hc⟩ : ∃ c, cps[i]? = some c := ⟨cps[i]'(by rw [hok.clen]; exact hil), by simp [show i < cps.length by rw [hok.clen]; exact hil]⟩
  obtain ⟨lk, hop, hlk⟩ := hob i o F c h2' hF hc
  have hliv : ∀ s ∈ o.looksAt (l ++ tl).toArray, ∀ (j : Nat) o', j < i → l[j]? = some o' → o'.dst = some s → Alive l cps listed j := by
   intro s hs j o' hj hoj hd
   refine ⟨?_, fun k p oj hoj' hck hdp => ?_⟩
   ·rcases hok.two i j o o' h2' hoj hj with ⟨ed, he, hb, hon⟩ | ⟨h4, _⟩
    ·rw [← hon]; exact h3 ed he hb
    ·exact absurd hs (h4 s hd)
   ·rw [hoj] at hoj'; injection hoj' with hoj'; subst hoj'
    rw [hd] at hdp; injection hdp with hdp; subst hdp
    by_cases hki : k = i
    ·rw [hki]; exact hf
    ·have hkl : k < l.length := by have := (List.getElem?_eq_some_iff.1 hck).1; rw [hok.clen] at this; exact this
     exact absurd hs ((hok.takes k l[k] s (by simp [hkl]) hck).2.1 i o (Ne.symm hki) h2')
  have hfacts : ∀ s ∈ o.looksAt (l ++ tl).toArray, (lk s).F (a.tmps.getD s undef) w := by
   intro s hs
   rcases hlk s with ⟨j, o', F', hj, hoj, hFj, hd, e⟩ | ⟨hno', e⟩
   ·rw [e]
    have := hI.fact j o' F' hoj hFj (hliv s hs j o' hj hoj hd)
    rwa [zk6 hok.clen hoj hd] at this
   ·rw [e]
    refine hI.rest s (fun j o' hoj hl hd => ?_)
    rcases Nat.lt_trichotomy j i with hji | hji | hji
    ·exact hno' j o' hji hoj hd
    ·subst hji; rw [hf] at hl; cases hl
    ·rcases hok.two j i o' o hoj h2' hji with ⟨ed, he, hb, hon⟩ | ⟨_, h4⟩
     ·have := hI.down j o' hoj hl ed he hb
      rw [hon, hf] at this; cases this
     ·exact h4 s hd hs
  have htake : ∀ p b, c = some p → (lk p).foot (a.tmps.getD p undef) = some b → ∃ (j : Nat) (oj : Oper) (Fj : OF), j < i ∧ l[j]? = some oj ∧ Fs[j]? = some Fj ∧ oj.dst = some p ∧ Alive l cps listed j ∧ Fj.foot (valJ l cps j a) = some b := by
   rintro p b rfl hb
   obtain ⟨t1, t2, j, oj, t3, t4, t5⟩ := hok.takes i o p h2' hc
   rcases hlk p with ⟨j', o', F', hj, hoj, hFj, hd, e⟩ | ⟨hno', _⟩
   ·rw [e] at hb
    exact ⟨j', o', F', hj, hoj, hFj, hd, hliv p t1 j' o' hj hoj hd, by rw [zk6 hok.clen hoj hd]; exact hb⟩
   ·exact absurd t5 (hno' j oj t3 t4)
  have hstep : ∀ v w' row, F.F v w' → w.grownBy w' row → (∀ b, row = some b → B ≤ b ∧ ∃ p, c = some p ∧ (lk p).foot (a.tmps.getD p undef) = some b) → (∀ b, F.foot v = some b → w.heap.size ≤ b ∨ ∃ p, c = some p ∧ (lk p).foot (a.tmps.getD p undef) = some b) → (o.dst = none → ∃ p, c = some p ∧ v = a.tmps.getD p undef) →
   wpAny P .any (l ++ tl).toArray Q fuel (listed.setIfInBounds i true) (a.put o.dst v) w' := by
   intro v w' row hFv hgr hrow hfoot hvn
   have hroom : ∀ t, o.dst = some t → t < a.tmps.size := fun t ht => by rw [hI.tsz]; exact hok.room i o t h2' ht
   have hset : ∀ j, (listed.setIfInBounds i true).getD j false = true → j = i ∨ listed.getD j false = true := fun j hj => by
    by_cases e : j = i
    ·exact .inl e
    ·rw [getD_set_ne false (Ne.symm e)] at hj; exact .inr hj
   have hal : ∀ j, j ≠ i → Alive l cps (listed.setIfInBounds i true) j → Alive l cps listed j := fun j hji h => by
    refine ⟨(hset j h.1).resolve_left hji, fun k p oj a1 a2 a3 => ?_⟩
    have := h.2 k p oj a1 a2 a3
    by_cases e : k = i
    ·rw [e]; exact hf
    ·rwa [getD_set_ne false (Ne.symm e)] at this
   have hval : ∀ (j : Nat) oj, j ≠ i → l[j]? = some oj → Alive l cps (listed.setIfInBounds i true) j → valJ l cps j (a.put o.dst v) = valJ l cps j a := fun j oj hji hoj hA => by
    have hj := (List.getElem?_eq_some_iff.1 hoj).1
    obtain ⟨cj, hcj⟩ : ∃ c, cps[j]? = some c := ⟨cps[j]'(by rw [hok.clen]; exact hj), by simp [show j < cps.length by rw [hok.clen]; exact hj]⟩
    rw [zil hoj hcj, zil hoj hcj]
    unfold valAtS
    cases hd : oj.dst with
    | some d =>
     simp only []
     rw [zbs _ _ _ _ hroom, if_neg (fun h6 => hji (hok.dsts j i oj o d hoj h2' hd h6))]
    | none =>
     simp only []
     cases cj with
     | none => rfl
     | some p =>
      simp only []
      rw [zbs _ _ _ _ hroom, if_neg (fun h6 => ?_)]
      obtain ⟨t1, _, jp, op, t3, t4, t5⟩ := hok.takes j oj p hoj hcj
      have e := hok.dsts i jp o op p h2' t4 h6 t5
      have hlj : listed.getD j false = true := (hset j hA.1).resolve_left hji
      rcases hok.two j jp oj op hoj t4 t3 with ⟨ed, he, hb, hon⟩ | ⟨h7, _⟩
      ·have := hI.down j oj hoj hlj ed he hb
       rw [hon, ← e, hf] at this; cases this
      ·exact h7 p t5 t1
   have hvi : valJ l cps i (a.put o.dst v) = v := by
    rw [zil h2' hc]
    unfold valAtS
    cases hd : o.dst with
    | none =>
     obtain ⟨p, hp, hv⟩ := hvn hd
     rw [hp]
     simp only [Act.put]
     exact hv.symm
    | some d => simp only []; rw [← hd, zbs _ _ _ _ hroom, if_pos hd]
   have hnt : ∀ j oj p b, j ≠ i → l[j]? = some oj → Alive l cps (listed.setIfInBounds i true) j → c = some p → (lk p).foot (a.tmps.getD p undef) = some b → ∀ Fj, Fs[j]? = some Fj → Fj.foot (valJ l cps j a) ≠ some b := by
    intro j oj p b hji hoj hA hcp hb Fj hFj hfj
    obtain ⟨jp, op, Fp, t1, t2, t3, t4, t5, t6⟩ := htake p b hcp hb
    have hne : j ≠ jp := by
     rintro rfl
     rw [hoj] at t2; injection t2 with t2; subst t2
     have := hA.2 i p oj hoj (by rw [hc, hcp]) t4
     simp [Array.getD, hls] at this
    exact hI.dis j jp oj op Fj Fp b hoj t2 hFj t3 hne (hal j hji hA) t5 hfj t6
   have hbw : Below B w w' := by
    refine ⟨hgr.os, hgr.tape, hgr.output, hgr.size, fun k hk => hgr.block k ?_ (fun e => ?_)⟩
    ·have := hI.bel.size; omega
    ·have := (hrow k e.symm).1; omega
   refine ih _ _ _ ⟨u.erase i, hnd.erase i, fun k => ?_, ?_⟩ ?_ (fun k hk => by rw [getD_set_ne false (show i ≠ k by omega)]; exact hno k hk)
   ·rw [hnd.mem_erase_iff, hu k]
    constructor
    ·rintro ⟨hki, hkl, hkf⟩
     exact ⟨hkl, by rw [getD_set_ne false (Ne.symm hki)]; exact hkf⟩
    ·rintro ⟨hkl, hkf⟩
     have hki : k ≠ i := by
      rintro rfl
      simp [Array.getD, hls] at hkf
     exact ⟨hki, hkl, by rw [getD_set_ne false (Ne.symm hki)] at hkf; exact hkf⟩
   ·have hiu : i ∈ u := (hu i).2 ⟨hil, hf⟩
    have := List.length_pos_of_mem hiu
    rw [List.length_erase_of_mem hiu]; omega
   ·refine ⟨hI.bel.trans hbw, ?_, ?_, by simpa using hI.lsz, ?_, ?_, ?_, ?_⟩
    ·rw [← hI.tsz]; cases o.dst <;> simp [Act.put]
    ·rw [← hI.dfs]; cases o.dst <;> simp [Act.put]
    ·intro j oj Fj hoj hFj hA
     by_cases e : j = i
     ·subst e
      rw [h2'] at hoj; injection hoj with hoj; subst hoj
      rw [hF] at hFj; injection hFj with hFj; subst hFj
      rw [hvi]; exact hFv
     ·rw [hval j oj e hoj hA]
      refine Fj.st _ _ _ row (hI.fact j oj Fj hoj hFj (hal j e hA)) hgr (fun b hb hr => ?_)
      obtain ⟨_, p, hp, hpb⟩ := hrow b hr
      exact hnt j oj p b e hoj hA hp hpb Fj hFj hb
    ·intro j k oj ok Fj Fk b hoj hok' hFj hFk hjk hAj hAk hbj hbk
     by_cases ej : j = i
     ·subst ej
      rw [h2'] at hoj; injection hoj with hoj; subst hoj
      rw [hF] at hFj; injection hFj with hFj; subst hFj
      rw [hvi] at hbj
      rw [hval k ok (Ne.symm hjk) hok' hAk] at hbk
      have hAk' := hal k (Ne.symm hjk) hAk
      rcases hfoot b hbj with h9 | ⟨p, hp, hpb⟩
      ·have := Fk.lt _ _ b (hI.fact k ok Fk hok' hFk hAk') hbk
       omega
      ·exact hnt k ok p b (Ne.symm hjk) hok' hAk hp hpb Fk hFk hbk
     ·by_cases ek : k = i
      ·subst ek
       rw [h2'] at hok'; injection hok' with hok'; subst hok'
       rw [hF] at hFk; injection hFk with hFk; subst hFk
       rw [hvi] at hbk
       rw [hval j oj ej hoj hAj] at hbj
       have hAj' := hal j ej hAj
       rcases hfoot b hbk with h9 | ⟨p, hp, hpb⟩
       ·have := Fj.lt _ _ b (hI.fact j oj Fj hoj hFj hAj') hbj
        omega
       ·exact hnt j oj p b ej hoj hAj hp hpb Fj hFj hbj
      ·rw [hval j oj ej hoj hAj] at hbj
       rw [hval k ok ek hok' hAk] at hbk
       exact hI.dis j k oj ok Fj Fk b hoj hok' hFj hFk hjk (hal j ej hAj) (hal k ek hAk) hbj hbk
    ·intro d hd
     have hne : o.dst ≠ some d := hd i o h2' (by simp [Array.getD, hls])
     rw [zbs _ _ _ _ hroom, if_neg hne]
     refine hI.rest d (fun j oj hoj hl => hd j oj hoj ?_)
     by_cases e : j = i
     ·subst e; simp [Array.getD, hls]
     ·rw [getD_set_ne false (Ne.symm e)]; exact hl
    ·intro j oj hoj hlj e he hb
     have key : listed.getD e.on false = true := by
      rcases hset j hlj with h4 | h4
      ·subst h4
       rw [h2'] at hoj; injection hoj with hoj; subst hoj
       exact h3 e he hb
      ·exact hI.down j oj hoj h4 e he hb
     have hne : e.on ≠ i := fun h => by rw [h, hf] at key; cases key
     rw [getD_set_ne false (Ne.symm hne)]; exact key
  have hthis := hop a w hI.bel hfacts
  unfold wpOp
  rw [h2]
  simp only []
  split
  ·rename_i hw
   rw [if_pos hw] at hthis
   left
   refine Oper.wp_safe ?_
   exact Oper.wp_mono (K' := wpAny P .any (l ++ tl).toArray Q fuel (listed.setIfInBounds i true)) (fun a' w' ⟨v, row, e, h6, h7, h8, h9, h10⟩ => by rw [e]; exact hstep v w' row h6 h7 h8 h9 h10) hthis
  ·rename_i hw
   rw [if_neg hw] at hthis
   exact hstep undef w none hthis.1 (World.grownBy.refl _ _) (fun b hb => by cases hb) (fun b hb => by rw [hthis.2.1] at hb; cases hb) (fun h => absurd h hthis.2.2)

theorem zhy {id n B : Nat} {l tl : List Oper} (Fs : List OF) (cps : List (Option Tmp)) (fl : List Bool) {Q : Exit → Act → World → Prop} {a : Act} {w w0 : World} (hm : P.follows .mixedOrders = true) (hok : okQ n l tl cps fl = true) (hsz : a.tmps.size = n)
    (hB : B ≤ w0.heap.size) (hbel : Below B w0 w) (hob : obsQ P (l ++ tl).toArray B w0 a l Fs cps []) (hfin : ∀ w', Below B w0 w' → finQ (fun a w => disQ l Fs cps fl a → seqWp P Q tl a w) l Fs cps fl a w') : (Code.region id (l ++ tl).toArray true).wp P Q a w := by
 have h1 := zn8 (P := P) (B := B) l Fs cps [] [] [] rfl (fun s => .inr ⟨by simp, rfl⟩) hob
 have hnone : ∀ (m j : Nat), (Array.replicate m false).getD j false = false := fun m j => by unfold Array.getD; split <;> simp
 refine wp_region_any hm (zmk (zsp hok) h1.1 hB (fun k o F c h2 h3 h3' => ?_) hsz hfin _ _ a _ ⟨List.range l.length, List.nodup_range, fun i => ?_, by simp⟩ ⟨?_, hsz, rfl, by simp, ?_, ?_, fun _ _ => rfl, ?_⟩ (fun k hk => hnone _ _))
 ·obtain ⟨lk, h4, h5⟩ := h1.2 k o F c h2 h3 h3'
  refine ⟨lk, h4, fun s => ?_⟩
  simpa using h5 s
 ·simp [hnone]
 ·exact hbel.drew
 ·intro j o F h2 h3 h4
  have := h4.1; rw [hnone] at this; cases this
 ·intro j k oj ok Fj Fk b h2 h3 h4 h5 h6 h7
  have := h7.1; rw [hnone] at this; cases this
 ·intro j o h2 h4
  rw [hnone] at h4; cases h4
theorem zat {ops : Array Oper} {B : Nat} {w0 : World} {o : Oper} {F : OF} {lk : Tmp → OF} {cp : Option Tmp} (hd : o.dst ≠ none) (h : opObO P ops B w0 o F lk cp) : opObQ P ops B w0 o F lk cp := by
 intro a w hb hf
 have h1 := h a w hb hf
 split
 ·rename_i hw
  rw [if_pos hw] at h1
  exact Oper.wp_mono (fun a' w' ⟨v, row, e, h2, h3, h4, h5⟩ => ⟨v, row, e, h2, h3, h4, h5, fun h => absurd h hd⟩) h1
 ·rename_i hw
  rw [if_neg hw] at h1
  exact ⟨h1.1, h1.2, hd⟩
theorem zk7 {ops : Array Oper} {B : Nat} {w0 : World} {o : Oper} {lk : Tmp → OF} (base : Nat) (hB : B ≤ base) {ty t : TypeId} {p q : Tmp} {n : Nat} {f g : Nat → Value} (hg : o.guard = none) (hd : o.dst = none) (hop : o.op = .store ty (.tmp p) (.tmp q)) (hp : lk p = OF.new base t n f) (hq : lk q = OF.is (.agg (arr n g))) (hi : (P.info? ty).map (·.size) = some n) (h1 : ∀ i, i < n → (g i).oneCell' = true) : opObQ P ops B w0 o (OF.new base t n g) lk (some p) := by
 intro a w hb hf
 rw [if_pos (by simp [Region.wanted, hg])]
 have hlook : ∀ s, Operand.tmp s ∈ o.op.operands → s ∈ o.looksAt ops := fun s hs => by
  unfold Oper.looksAt
  exact List.mem_append_left _ (List.mem_filterMap.2 ⟨.tmp s, by simpa using hs, rfl⟩)
 have hfp := hf p (hlook p (by rw [hop]; simp [Op.operands]))
 have hfq := hf q (hlook q (by rw [hop]; simp [Op.operands]))
 rw [hp] at hfp
 rw [hq] at hfq
 obtain ⟨b, e1, hbb, hr⟩ := hfp
 have hfq' : a.tmps.getD q undef = .agg (arr n g) := hfq
 have hx : a.eval (.tmp p) = .pointer (some ⟨b, 0, none⟩) := e1
 have hy : a.eval (.tmp q) = .agg (arr n g) := hfq'
 have hS : HS w w [⟨b, t, n, f⟩] := (HS.nil w).take hr (by simp)
 refine zga ty (.tmp p) (.tmp q) hop hS 0 rfl g hx hy hi h1 (fun w' hs => ?_)
 refine ⟨a.tmps.getD p undef, some b, by rw [hd]; rfl, ⟨b, e1, hbb, hs.row 0 rfl⟩, hs.grown b (by simp), (fun b' e => ?_), (fun b' e => ?_), fun _ => ⟨p, rfl, rfl⟩⟩
 ·injection e with e; subst e
  exact ⟨by omega, p, rfl, by rw [hp]; show footP (a.tmps.getD p undef) = _; rw [e1]; rfl⟩
 ·right
  refine ⟨p, rfl, ?_⟩
  rw [hp]
  exact e
end
end Go.Proofs.YtomilckcgmhfcaaDoor
