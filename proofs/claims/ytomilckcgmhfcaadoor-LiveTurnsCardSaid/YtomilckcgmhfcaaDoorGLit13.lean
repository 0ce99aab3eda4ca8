/- Lemmas that the proof stands on. -/
import Derived.Test.YtomilckcgmhfcaaDoorGLit11
namespace Go.Proofs.YtomilckcgmhfcaaDoor
set_option maxRecDepth 40000
set_option maxHeartbeats 64000000
def nodN (d n : Nat) (x : Nat → Nat) (j : Nat) : Nat → Nat := fun q => levN d (padN (n * 32) x) (j * 32 + q)
theorem zwb (d n : Nat) (x : Nat → Nat) (j q : Nat) (hq : q < 32) : nodN (d + 1) n x j q = shaB (catN 32 (nodN d n x (2 * j)) (nodN d n x (2 * j + 1))) 64 q := by
 unfold nodN
 rw [zhr]
 unfold lvl
 rw [show (j * 32 + q) / 32 = j by omega, show (j * 32 + q) % 32 = q by omega]
theorem zr8 (d n : Nat) (x : Nat → Nat) (j q : Nat) (h : cnt d n ≤ j) (hq : q < 32) : nodN d n x j q = zrN d q :=
 zi9 d j n x (lT (zf2 d n) (Nat.mul_le_mul_right _ h)) q hq
theorem zmc (n : Nat) (x : Nat → Nat) (j q : Nat) (h : j < n) (hq : q < 32) : nodN 0 n x j q = x (j * 32 + q) := by
 unfold nodN levN padN
 rw [if_pos (by omega)]
theorem zr9 (d n : Nat) (x : Nat → Nat) (hn : n ≤ 2 ^ d) (q : Nat) (hq : q < 32) : nodN d n x 0 q = treeN d n x q := by
 rw [zja d n x hn q hq]; unfold nodN; congr 1; omega
theorem zhu (k n n' : Nat) (x x' : Nat → Nat) (j : Nat) (h : ∀ i q, i / 2 ^ k = j → q < 32 → padN (n * 32) x (i * 32 + q) = padN (n' * 32) x' (i * 32 + q)) : ∀ q, q < 32 → nodN k n x j q = nodN k n' x' j q := fun q hq => by
 unfold nodN
 rw [← zgj k j _ q hq, ← zgj k j _ q hq]
 refine zc0 k _ _ (fun r hr => ?_) q hq
 have hp : 0 < 2 ^ k := Nat.two_pow_pos k
 have hr2 : r / 32 < 2 ^ k := by omega
 have e : j * 2 ^ k * 32 + r = (j * 2 ^ k + r / 32) * 32 + r % 32 := by omega
 rw [e]
 refine h _ _ ?_ (by omega)
 rw [Nat.add_comm, Nat.add_mul_div_right _ _ hp, Nat.div_eq_of_lt hr2, Nat.zero_add]
theorem zsa : ∀ (d : Nat) {n m : Nat}, n ≤ m → cnt d n ≤ cnt d m := by
 intro d
 induction d with
 | zero => intro n m h; exact h
 | succ d ih => intro n m h; have := ih h; rw [cnt, cnt]; omega
theorem zju {d n i : Nat} (h : i < n) : i / 2 ^ d < cnt d n := by
 rw [Nat.div_lt_iff_lt_mul (Nat.two_pow_pos d)]
 exact Nat.lt_of_lt_of_le h (zf2 d n)
def LevOk (k n m : Nat) (x g : Nat → Nat) (P : Nat → Prop) : Prop := m ≤ cnt k n ∧ ∀ j, j < cnt k n → (∀ i, P i → i / 2 ^ k ≠ j) → j < m ∧ ∀ q, q < 32 → g (j * 32 + q) = nodN k n x j q
theorem zuj {k n m : Nat} {x x' g : Nat → Nat} {P P' : Nat → Prop} (i : Nat) (h : LevOk k n m x g P) (hx : ∀ j q, j ≠ i → q < 32 → x' (j * 32 + q) = x (j * 32 + q)) (hP : ∀ a, P a ∨ a = i → P' a) : LevOk k n m x' g P' := by
 refine ⟨h.1, fun j hj hn => ?_⟩
 obtain ⟨h1, h2⟩ := h.2 j hj (fun a ha => hn a (hP a (.inl ha)))
 have hi := hn i (hP i (.inr rfl))
 refine ⟨h1, fun q hq => (h2 q hq).trans (zhu k n n x x' j (fun a r ha hr => ?_) q hq)⟩
 have hai : a ≠ i := fun e => hi (by rw [← e]; exact ha)
 unfold padN
 rw [hx a r hai hr]
theorem zuk {k n m : Nat} {x x' g : Nat → Nat} {P P' : Nat → Prop} (h : LevOk k n m x g P) (hx : ∀ j, j < n * 32 → x' j = x j) (hP : ∀ a, P a ∨ a = n → P' a) : LevOk k (n + 1) m x' g P' := by
 refine ⟨lT h.1 (zsa k (by omega)), fun j hj hn => ?_⟩
 obtain ⟨p, hp⟩ : ∃ p, p = 2 ^ k := ⟨_, rfl⟩
 have hp0 : 0 < p := by rw [hp]; exact Nat.two_pow_pos k
 have hnj := hn n (hP n (.inr rfl))
 rw [← hp] at hnj
 have h1 := zp6 k (n + 1)
 rw [← hp] at h1
 have h2 : (j + 1) * p ≤ cnt k (n + 1) * p := Nat.mul_le_mul_right _ hj
 have h3 : j * p ≤ n := by rw [Nat.succ_mul] at h2; omega
 have h4 : j ≤ n / p := by rw [Nat.le_div_iff_mul_le hp0]; exact h3
 have h5 : (j + 1) * p ≤ n := by
  have : j + 1 ≤ n / p := by omega
  rw [← Nat.le_div_iff_mul_le hp0]; exact this
 have h6 : j < cnt k n := by
  have h7 := zf2 k n
  rw [← hp] at h7
  rcases Nat.lt_or_ge j (cnt k n) with h8 | h8
  ·exact h8
  ·have := Nat.mul_le_mul_right p h8
   rw [Nat.succ_mul] at h5; omega
 obtain ⟨h7, h8⟩ := h.2 j h6 (fun a ha => hn a (hP a (.inl ha)))
 refine ⟨h7, fun q hq => (h8 q hq).trans (zhu k n (n + 1) x x' j (fun a r ha hr => ?_) q hq)⟩
 have ha2 : a < n := by
  rw [← hp] at ha
  have : a < (j + 1) * p := by
   rw [← Nat.div_lt_iff_lt_mul hp0]; omega
  omega
 unfold padN
 rw [if_pos (by omega), if_pos (by omega), hx _ (by omega)]
def LevAll (k n m : Nat) (x g : Nat → Nat) : Prop := m = cnt k n ∧ ∀ j, j < cnt k n → ∀ q, q < 32 → g (j * 32 + q) = nodN k n x j q
theorem LevAll.ok {k n m : Nat} {x g : Nat → Nat} (h : LevAll k n m x g) (P : Nat → Prop) : LevOk k n m x g P := ⟨Nat.le_of_eq h.1, fun j hj _ => ⟨by rw [h.1]; exact hj, h.2 j hj⟩⟩
def hfN (f : Nat → Nat) : Nat → List Nat
  | 0 => []
  | q + 1 => if (hfN f q).getLast? = some (f q / 2) then hfN f q else hfN f q ++ [f q / 2]
section
variable {f : Nat → Nat} {q k : Nat}
theorem zfy (h : (hfN f q).getLast? = some (f q / 2)) : hfN f (q + 1) = hfN f q := by rw [hfN, if_pos h]
theorem zfz (h : (hfN f q).getLast? ≠ some (f q / 2)) : hfN f (q + 1) = hfN f q ++ [f q / 2] := by rw [hfN, if_neg h]
theorem zul : ∀ q, (hfN f (q + 1)).getLast? = some (f q / 2) := fun q => by
 by_cases h : (hfN f q).getLast? = some (f q / 2)
 ·rw [zfy h, h]
 ·rw [zfz h]; simp
theorem zmd : ∀ q, k ∈ hfN f q ↔ ∃ p, p < q ∧ f p / 2 = k := by
 intro q
 induction q with
 | zero => simp [hfN]
 | succ q ih =>
  by_cases h : (hfN f q).getLast? = some (f q / 2)
  ·rw [zfy h, ih]
   refine ⟨fun ⟨p, h1, h2⟩ => ⟨p, by omega, h2⟩, fun ⟨p, h1, h2⟩ => ?_⟩
   by_cases hpq : p = q
   ·subst hpq
    have := List.mem_of_getLast? h
    rw [h2] at this
    exact ih.1 this
   ·exact ⟨p, by omega, h2⟩
  ·rw [zfz h, List.mem_append, ih, List.mem_singleton]
   refine ⟨fun h1 => ?_, fun ⟨p, h1, h2⟩ => ?_⟩
   ·rcases h1 with ⟨p, h1, h2⟩ | rfl
    ·exact ⟨p, by omega, h2⟩
    ·exact ⟨q, by omega, rfl⟩
   ·by_cases hpq : p = q
    ·subst hpq; exact .inr h2.symm
    ·exact .inl ⟨p, by omega, h2⟩
theorem zwc : ∀ q, (hfN f q).length ≤ q := by
 intro q
 induction q with
 | zero => simp [hfN]
 | succ q ih =>
  by_cases h : (hfN f q).getLast? = some (f q / 2)
  ·rw [zfy h]; omega
  ·rw [zfz h]; simp; omega
theorem zqh : ∀ q, (∀ a b, a < b → b < q → f a < f b) → (hfN f q).Pairwise (· < ·) := by
 intro q
 induction q with
 | zero => intro _; simp [hfN]
 | succ q ih =>
  intro hs
  have h1 := ih (fun a b hab hb => hs a b hab (by omega))
  by_cases h : (hfN f q).getLast? = some (f q / 2)
  ·rw [zfy h]; exact h1
  ·rw [zfz h, List.pairwise_append]
   refine ⟨h1, List.pairwise_singleton _ _, fun a ha b hb => ?_⟩
   rw [List.mem_singleton] at hb
   subst hb
   obtain ⟨p, hp, rfl⟩ := (zmd q).1 ha
   have h2 := hs p q hp (by omega)
   rcases Nat.lt_or_ge (f p / 2) (f q / 2) with h3 | h3
   ·exact h3
   ·exfalso
    obtain ⟨r, rfl⟩ : ∃ r, q = r + 1 := ⟨q - 1, by omega⟩
    have h4 := zul (f := f) r
    have h5 : f p ≤ f r := by
     rcases Nat.lt_or_ge p r with h6 | h6
     ·exact Nat.le_of_lt (hs p r h6 (by omega))
     ·rw [show p = r by omega]; exact Nat.le_refl _
    have h6 := hs r (r + 1) (by omega) (by omega)
    exact h (by rw [h4]; congr 1; omega)
end
theorem zqi {l : List Nat} (h : l.Pairwise (· < ·)) : ∀ (i : Nat) (hi : i < l.length), i ≤ l[i] := by
 intro i
 induction i with
 | zero => intro _; exact Nat.zero_le _
 | succ i ih =>
  intro hi
  have h1 := ih (by omega)
  have h2 := List.pairwise_iff_getElem.1 h i (i + 1) (by omega) hi (by omega)
  omega
theorem zov {l : List Nat} {N : Nat} (h : l.Pairwise (· < ·)) (hN : ∀ a ∈ l, a < N) : l.length ≤ N := by
 rcases Nat.eq_zero_or_pos l.length with h0 | h0
 ·omega
 ·have h1 := zqi h (l.length - 1) (by omega)
  have h2 := hN _ (List.getElem_mem (l := l) (n := l.length - 1) (by omega))
  omega
def atL (n : Nat) (t : Nat → Bool) : Nat → List Nat
  | 0 => (List.range n).filter t
  | d + 1 => hfN (fun q => (atL n t d).getD q 0) (atL n t d).length
def atN (n : Nat) (t : Nat → Bool) (d : Nat) : Nat → Nat := fun q => (atL n t d).getD q 0
section
variable {n : Nat} {t : Nat → Bool}
theorem zgo {d q : Nat} (h : q < (atL n t d).length) : atN n t d q = (atL n t d)[q] := by unfold atN; simp [List.getD, h]
theorem zky : ∀ d, (atL n t d).Pairwise (· < ·) := by
 intro d
 induction d with
 | zero => exact List.Pairwise.filter _ List.pairwise_lt_range
 | succ d ih =>
  refine zqh _ (fun a b hab hb => ?_)
  have h1 := List.pairwise_iff_getElem.1 ih a b (by omega) hb hab
  have ha : (atL n t d).getD a 0 = (atL n t d)[a] := by simp [List.getD, show a < (atL n t d).length by omega]
  have hb' : (atL n t d).getD b 0 = (atL n t d)[b] := by simp [List.getD, hb]
  simp only [ha, hb']; exact h1
theorem zxf {d a b : Nat} (hab : a < b) (hb : b < (atL n t d).length) : atN n t d a < atN n t d b := by
 rw [zgo (by omega), zgo hb]
 exact List.pairwise_iff_getElem.1 (zky d) a b (by omega) hb hab
theorem zhv : ∀ d i, i ∈ atL n t d ↔ ∃ a, a < n ∧ t a = true ∧ a / 2 ^ d = i := by
 intro d
 induction d with
 | zero =>
  intro i
  simp only [atL, List.mem_filter, List.mem_range, Nat.pow_zero, Nat.div_one]
  exact ⟨fun ⟨h1, h2⟩ => ⟨i, h1, h2, rfl⟩, fun ⟨a, h1, h2, e⟩ => by subst e; exact ⟨h1, h2⟩⟩
 | succ d ih =>
  intro i
  rw [atL, zmd]
  constructor
  ·rintro ⟨p, hp, h2⟩
   have h3 : (atL n t d).getD p 0 ∈ atL n t d := by
    rw [show (atL n t d).getD p 0 = (atL n t d)[p] by simp [List.getD, hp]]; exact List.getElem_mem hp
   obtain ⟨a, h4, h5, h6⟩ := (ih _).1 h3
   exact ⟨a, h4, h5, by rw [Nat.pow_succ, ← Nat.div_div_eq_div_mul, h6]; exact h2⟩
  ·rintro ⟨a, h1, h2, h3⟩
   have h4 := (ih (a / 2 ^ d)).2 ⟨a, h1, h2, rfl⟩
   obtain ⟨p, hp, e⟩ := List.getElem_of_mem h4
   refine ⟨p, hp, ?_⟩
   rw [show (atL n t d).getD p 0 = (atL n t d)[p] by simp [List.getD, hp], e, Nat.div_div_eq_div_mul, ← Nat.pow_succ, h3]
theorem zme {d q : Nat} (h : q < (atL n t d).length) : atN n t d q < cnt d n := by
 have h1 : atN n t d q ∈ atL n t d := by rw [zgo h]; exact List.getElem_mem h
 obtain ⟨a, h2, _, h3⟩ := (zhv d _).1 h1
 rw [← h3]; exact zju h2
theorem zjv (d : Nat) : (atL n t d).length ≤ cnt d n :=
 zov (zky d) fun a ha => by
  obtain ⟨b, h2, _, h3⟩ := (zhv d _).1 ha
  rw [← h3]; exact zju h2
theorem zum (h : ∀ a, a < n → t a = false) : ∀ d, atL n t d = [] := fun d => by
 cases hl : atL n t d with
 | nil => rfl
 | cons i l =>
  obtain ⟨a, h1, h2, _⟩ := (zhv d i).1 (by rw [hl]; exact List.mem_cons_self)
  rw [h a h1] at h2; cases h2
end
def costN (n : Nat) (t : Nat → Bool) : Nat → Nat
  | 0 => 0
  | d + 1 => costN n t d + (atL n t (d + 1)).length
theorem zmf (n : Nat) (t : Nat → Bool) : ∀ D, costN n t D + cnt D n ≤ n + D := by
 intro D
 induction D with
 | zero => simp [costN, cnt]
 | succ D ih => have := zjv (n := n) (t := t) (D + 1); rw [cnt] at this; rw [costN, cnt]; omega
theorem zqj {n : Nat} {t : Nat → Bool} (h : ∀ a, a < n → t a = false) : ∀ D, costN n t D = 0 := by
 intro D
 induction D with
 | zero => rfl
 | succ D ih => rw [costN, ih, zum h]; rfl

def LevPart (d n m : Nat) (x g : Nat → Nat) (t : Nat → Bool) (q : Nat) : Prop :=
 m ≤ cnt (d + 1) n ∧ ∀ j, j < cnt (d + 1) n → ((∀ a, a < n → t a = true → a / 2 ^ (d + 1) ≠ j) ∨ ∃ p, p < q ∧ atN n t d p / 2 = j) → j < m ∧ ∀ r, r < 32 → g (j * 32 + r) = nodN (d + 1) n x j r
theorem zow {d n m : Nat} {x g : Nat → Nat} {t : Nat → Bool} (h : LevOk (d + 1) n m x g (fun a => a < n ∧ t a = true)) : LevPart d n m x g t 0 :=
 ⟨h.1, fun j hj hor => by
  rcases hor with h1 | ⟨p, hp, _⟩
  ·exact h.2 j hj (fun a ha => h1 a ha.1 ha.2)
  ·omega⟩
theorem zqk {d n m : Nat} {x g : Nat → Nat} {t : Nat → Bool} {q : Nat} (h : LevPart d n m x g t q) (hl : (hfN (atN n t d) q).getLast? = some (atN n t d q / 2)) : LevPart d n m x g t (q + 1) :=
 ⟨h.1, fun j hj hor => h.2 j hj (by
  rcases hor with h1 | ⟨p, hp, e⟩
  ·exact .inl h1
  ·by_cases hpq : p = q
   ·subst hpq
    have := List.mem_of_getLast? hl
    rw [e] at this
    exact .inr ((zmd p).1 this)
   ·exact .inr ⟨p, by omega, e⟩)⟩
theorem zjw {d n m : Nat} {x g : Nat → Nat} {t : Nat → Bool} {q : Nat} (h : LevPart d n m x g t q) (hq : q < (atL n t d).length) : atN n t d q / 2 ≤ m ∧ atN n t d q / 2 < cnt (d + 1) n := by
 have hc := zme (n := n) (t := t) hq
 have hk : atN n t d q / 2 < cnt (d + 1) n := by rw [cnt]; omega
 refine ⟨?_, hk⟩
 rcases Nat.lt_or_ge m (atN n t d q / 2) with h1 | h1
 ·exfalso
  by_cases h2 : ∃ a, a < n ∧ t a = true ∧ a / 2 ^ (d + 1) = m
  ·obtain ⟨a, ha, hb, hm⟩ := h2
   have h3 := (zhv (n := n) (t := t) d (a / 2 ^ d)).2 ⟨a, ha, hb, rfl⟩
   obtain ⟨p, hp, e⟩ := List.getElem_of_mem h3
   have e2 : atN n t d p = a / 2 ^ d := by rw [zgo hp]; exact e
   have e3 : atN n t d p / 2 = m := by rw [e2, Nat.div_div_eq_div_mul, ← Nat.pow_succ]; exact hm
   have hpq : p < q := by
    rcases Nat.lt_or_ge p q with h4 | h4
    ·exact h4
    ·exfalso
     rcases Nat.lt_or_ge q p with h5 | h5
     ·have := zxf (n := n) (t := t) h5 hp; omega
     ·rw [show p = q by omega] at e3; omega
   have := (h.2 m (by omega) (.inr ⟨p, hpq, e3⟩)).1
   omega
  ·have := (h.2 m (by omega) (.inl fun a ha hb e => h2 ⟨a, ha, hb, e⟩)).1
   omega
 ·exact h1
theorem zht {d n m m' : Nat} {x g g' : Nat → Nat} {t : Nat → Bool} {q : Nat} (h : LevPart d n m x g t q) (hq : q < (atL n t d).length) (hm : m' = if atN n t d q / 2 < m then m else m + 1)
    (hg : ∀ r, r < 32 → g' (atN n t d q / 2 * 32 + r) = nodN (d + 1) n x (atN n t d q / 2) r) (ho : ∀ j, j < m → j ≠ atN n t d q / 2 → ∀ r, r < 32 → g' (j * 32 + r) = g (j * 32 + r)) : LevPart d n m' x g' t (q + 1) := by
 obtain ⟨h1, h2⟩ := zjw h hq
 have h3 := h.1
 have hmm : m ≤ m' := by rw [hm]; split <;> omega
 have hkm : atN n t d q / 2 < m' := by rw [hm]; split <;> omega
 refine ⟨by rw [hm]; split <;> omega, fun j hj hor => ?_⟩
 by_cases hjk : j = atN n t d q / 2
 ·subst hjk; exact ⟨hkm, hg⟩
 ·obtain ⟨h5, h6⟩ := h.2 j hj (by
   rcases hor with h4 | ⟨p, hp, e⟩
   ·exact .inl h4
   ·refine .inr ⟨p, ?_, e⟩
    rcases Nat.lt_or_ge p q with h7 | h7
    ·exact h7
    ·rw [show p = q by omega] at e; exact absurd e.symm hjk)
  exact ⟨by omega, fun r hr => (ho j h5 hjk r hr).trans (h6 r hr)⟩
theorem zsb {d n m : Nat} {x g : Nat → Nat} {t : Nat → Bool} (h : LevPart d n m x g t (atL n t d).length) : LevAll (d + 1) n m x g := by
 have h1 : ∀ j, j < cnt (d + 1) n → j < m ∧ ∀ r, r < 32 → g (j * 32 + r) = nodN (d + 1) n x j r := fun j hj => h.2 j hj (by
  by_cases h2 : ∃ a, a < n ∧ t a = true ∧ a / 2 ^ (d + 1) = j
  ·obtain ⟨a, ha, hb, hm⟩ := h2
   obtain ⟨p, hp, e⟩ := List.getElem_of_mem ((zhv (n := n) (t := t) d (a / 2 ^ d)).2 ⟨a, ha, hb, rfl⟩)
   exact .inr ⟨p, hp, by rw [zgo hp, e, Nat.div_div_eq_div_mul, ← Nat.pow_succ]; exact hm⟩
  ·exact .inl fun a ha hb e => h2 ⟨a, ha, hb, e⟩)
 refine ⟨?_, fun j hj => (h1 j hj).2⟩
 have := h.1
 rcases Nat.eq_zero_or_pos (cnt (d + 1) n) with h2 | h2
 ·omega
 ·have := (h1 (cnt (d + 1) n - 1) (by omega)).1; omega
theorem zun {d n m : Nat} {x g : Nat → Nat} (h : LevAll d n m x g) {k i : Nat} (hi : i < cnt d n) (hk : i / 2 = k) {b : Nat → Nat} (hb : ∀ q, q < 32 → b q = if 2 * k + 1 < m then g ((2 * k + 1) * 32 + q) else zrN d q) : ∀ q, q < 32 → shaB (catN 32 (fun q => g (2 * k * 32 + q)) b) 64 q = nodN (d + 1) n x k q := fun q hq => by
 rw [zwb d n x k q hq]
 rw [zcv (c := nodN d n x (2 * k)) (d := nodN d n x (2 * k + 1)) (fun r hr => h.2 (2 * k) (by omega) r hr) (fun r hr => by
  rw [hb r hr]
  have hm := h.1
  by_cases h1 : 2 * k + 1 < m
  ·rw [if_pos h1]; exact h.2 (2 * k + 1) (by omega) r hr
  ·rw [if_neg h1]; exact (zr8 d n x (2 * k + 1) r (by omega) hr).symm)]
end Go.Proofs.YtomilckcgmhfcaaDoor
namespace Go.Proofs.YtomilckcgmhfcaaDoor
set_option maxRecDepth 40000
set_option maxHeartbeats 64000000
open Go.RowKit
structure TV where
 lim : Nat
 D : Nat
 zA : Option Addr
 zc : Nat
 lb : Nat
 lc : Nat
 dA : Option Addr
 dn : Nat
 dc : Nat
 dw : Nat → Nat
 H : Nat
 lA : Nat → Option Addr
 lm : Nat → Nat
 lk : Nat → Nat
 g : Nat → Nat → Nat
def TV.F (v : TV) : Nat → Value := fun i => if i = 0 then .int .i64 (v.lim : Int) else if i = 1 then .slice v.zA (v.D + 1) v.zc else if i = 2 then .slice (some ⟨v.lb, 0, none⟩) (v.D + 1) v.lc else if i = 3 then .slice v.dA v.dn v.dc else .int .i64 (v.H : Int)
def zrsN : Nat → Nat := fun i => zrN (i / 32) (i % 32)
def TV.role (v : TV) (T : Nat) (r b : Nat) : Prop := match r with
 | 0 => b = T
 | 1 => b = v.lb
 | 2 => OnA v.dA b
 | k + 3 => k ≤ v.D ∧ OnA (v.lA k) b
def TV.own (v : TV) (T : Nat) (b : Nat) : Prop := ∃ r, v.role T r b
structure TM (w : World) (base T : Nat) (v : TV) : Prop where
 baseT : base ≤ T
 row : w.rowIs T 136 5 v.F
 zr : Rd w w.heap.size v.zA ((v.D + 1) * 32) (u8v zrsN)
 zb : ∀ b, OnA v.zA b → base ≤ b
 baseL : base ≤ v.lb
 lrow : ∃ F, w.rowIs v.lb 32 v.lc F ∧ ∀ k, k ≤ v.D → F k = .slice (v.lA k) (v.lm k) (v.lk k)
 lcap : v.D + 1 ≤ v.lc
 lv : ∀ k, k ≤ v.D → OwnZ w base 24 32 (v.lA k) (v.lm k) (v.lk k) (u8v (v.g k))
 dr : OwnZ w base 22 1 v.dA v.dn v.dc (u64v v.dw)
 apart : ∀ r r' b, v.role T r b → v.role T r' b → r = r'
 zapart : ∀ b, OnA v.zA b → ¬ v.own T b
section
variable {w w' : World} {base T : Nat} {v : TV}
theorem TM.lt (h : TM w base T v) {b : Nat} (hb : v.own T b) : b < w.heap.size := by
 obtain ⟨r, hr⟩ := hb
 match r, hr with
 | 0, hr => rw [show b = T from hr]; exact h.row.lt
 | 1, hr => rw [show b = v.lb from hr]; obtain ⟨F, hF, _⟩ := h.lrow; exact hF.lt
 | 2, hr => exact (h.dr.on hr).2
 | k + 3, hr => exact ((h.lv k hr.1).on hr.2).2
theorem TM.ge (h : TM w base T v) {b : Nat} (hb : v.own T b) : base ≤ b := by
 obtain ⟨r, hr⟩ := hb
 match r, hr with
 | 0, hr => rw [show b = T from hr]; exact h.baseT
 | 1, hr => rw [show b = v.lb from hr]; exact h.baseL
 | 2, hr => exact (h.dr.on hr).1
 | k + 3, hr => exact ((h.lv k hr.1).on hr.2).1
theorem TM.zlt (h : TM w base T v) {b : Nat} (hb : OnA v.zA b) : b < w.heap.size := by
 obtain ⟨ad, e, rfl⟩ := hb
 obtain ⟨ad', e', hlt, _⟩ := h.zr (by omega)
 rw [e] at e'; injection e' with e'; rw [e']; exact hlt
theorem TM.keep (h : TM w base T v) (hs : w.heap.size ≤ w'.heap.size) (hk : ∀ b, v.own T b ∨ OnA v.zA b → w'.heap[b]? = w.heap[b]?) : TM w' base T v where
 baseT := h.baseT
 row := h.row.of_block (hk T (.inl ⟨0, rfl⟩))
 zr := by
  intro h0
  obtain ⟨ad, e, hb, hc⟩ := h.zr h0
  refine ⟨ad, e, by omega, fun i hi => ?_⟩
  rw [← hc i hi]
  exact World.cell?_of_block (by rw [za7]; exact hk _ (.inr ⟨ad, e, rfl⟩))
 zb := h.zb
 baseL := h.baseL
 lrow := by
  obtain ⟨F, hF, h1⟩ := h.lrow
  exact ⟨F, hF.of_block (hk v.lb (.inl ⟨1, rfl⟩)), h1⟩
 lcap := h.lcap
 lv := fun k hk2 => (h.lv k hk2).blk fun ad e => hk _ (.inl ⟨k + 3, hk2, ad, e, rfl⟩)
 dr := h.dr.blk fun ad e => hk _ (.inl ⟨2, ad, e, rfl⟩)
 apart := h.apart
 zapart := h.zapart
theorem TM.below (h : TM w base T v) (hb : Below w.heap.size w w') : TM w' base T v := h.keep hb.size fun b hbb => hb.block b (by
 rcases hbb with h1 | h1
 ·exact h.lt h1
 ·exact h.zlt h1)
theorem TM.chg {S : Nat → Prop} (h : TM w base T v) (hc : Chg S w w') (hS : ∀ b, v.own T b ∨ OnA v.zA b → ¬ S b) : TM w' base T v := h.keep hc.size fun b hb => hc.block b (by
 rcases hb with h1 | h1
 ·exact h.lt h1
 ·exact h.zlt h1) (hS b hb)
theorem TM.cell (h : TM w base T v) (i : Nat) (hi : i < 5) : w.cell? ⟨T, i, none⟩ = some (v.F i) := h.row.cell hi
theorem TM.level (h : TM w base T v) {k : Nat} (hk : k ≤ v.D) : w.cell? ⟨v.lb, k, none⟩ = some (.slice (v.lA k) (v.lm k) (v.lk k)) := by
 obtain ⟨F, hF, h1⟩ := h.lrow
 rw [← h1 k hk]
 exact hF.cell (by have := h.lcap; omega)
theorem TM.setH (h : TM w base T v) (H' : Nat) : TM (w.setCell ⟨T, 4, none⟩ (.int .i64 (H' : Int))) base T { v with H := H' } := by
 have hoth : ∀ b, b ≠ T → (w.setCell ⟨T, 4, none⟩ (.int .i64 (H' : Int))).heap[b]? = w.heap[b]? := fun b hb => Below.heap_setCell w _ _ b hb
 have hsz : (w.setCell ⟨T, 4, none⟩ (.int .i64 (H' : Int))).heap.size = w.heap.size := by simp [World.setCell]
 have h0 : ∀ r b, v.role T r b → r ≠ 0 → b ≠ T := fun r b hr hn e => hn (h.apart r 0 b hr e)
 exact {
  baseT := h.baseT
  row := (h.row.set 4 _).congr (fun i hi => by
   unfold TV.F
   rcases (show i = 0 ∨ i = 1 ∨ i = 2 ∨ i = 3 ∨ i = 4 by omega) with rfl | rfl | rfl | rfl | rfl <;> rfl)
  zr := by
   intro hz
   obtain ⟨ad, e, hb, hc⟩ := h.zr hz
   refine ⟨ad, e, by rw [hsz]; exact hb, fun i hi => ?_⟩
   rw [← hc i hi]
   exact World.cell?_of_block (by rw [za7]; exact hoth _ (fun e2 => h.zapart _ ⟨ad, e, rfl⟩ ⟨0, e2⟩))
  zb := h.zb
  baseL := h.baseL
  lrow := by
   obtain ⟨F, hF, h1⟩ := h.lrow
   exact ⟨F, hF.of_block (hoth _ (h0 1 _ rfl (by omega))), h1⟩
  lcap := h.lcap
  lv := fun k hk => (h.lv k hk).blk fun ad e => hoth _ (h0 (k + 3) _ ⟨hk, ad, e, rfl⟩ (by omega))
  dr := h.dr.blk fun ad e => hoth _ (h0 2 _ ⟨ad, e, rfl⟩ (by omega))
  apart := h.apart
  zapart := h.zapart }
theorem TM.setD (h : TM w base T v) {A' : Option Addr} {n' c' : Nat} {dw' : Nat → Nat} (hg : w.grownBy w' (v.dA.map (·.block))) (ho : OwnZ w' base 22 1 A' n' c' (u64v dw')) (hA : ∀ b, OnA A' b → OnA v.dA b ∨ w.heap.size ≤ b) :
 TM (w'.setCell ⟨T, 3, none⟩ (.slice A' n' c')) base T { v with dA := A', dn := n', dc := c', dw := dw' } := by
 have hne : ∀ r b, v.role T r b → r ≠ 2 → some b ≠ v.dA.map (·.block) := fun r b hr hn e => by
  cases hd : v.dA with
  | none => rw [hd] at e; cases e
  | some ad => rw [hd] at e; injection e with e; exact hn (h.apart r 2 b hr ⟨ad, hd, e.symm⟩)
 have hkeep : ∀ r b, v.role T r b → r ≠ 2 → w'.heap[b]? = w.heap[b]? := fun r b hr hn => hg.block b (h.lt ⟨r, hr⟩) (hne r b hr hn)
 have hoth : ∀ b, b ≠ T → (w'.setCell ⟨T, 3, none⟩ (.slice A' n' c')).heap[b]? = w'.heap[b]? := fun b hb => Below.heap_setCell w' _ _ b hb
 have hsz : (w'.setCell ⟨T, 3, none⟩ (.slice A' n' c')).heap.size = w'.heap.size := by simp [World.setCell]
 have h0 : ∀ r b, v.role T r b → r ≠ 0 → b ≠ T := fun r b hr hn e => hn (h.apart r 0 b hr e)
 have hT := h.row.lt
 have hAT : ∀ b, OnA A' b → b ≠ T := fun b hb e => by
  rcases hA b hb with h1 | h1
  ·exact h0 2 b h1 (by omega) e
  ·omega
 exact {
  baseT := h.baseT
  row := ((h.row.of_block (hkeep 0 T rfl (by omega))).set 3 _).congr (fun i hi => by
   unfold TV.F
   rcases (show i = 0 ∨ i = 1 ∨ i = 2 ∨ i = 3 ∨ i = 4 by omega) with rfl | rfl | rfl | rfl | rfl <;> rfl)
  zr := by
   intro hz
   obtain ⟨ad, e, hb, hc⟩ := h.zr hz
   have hbd : ad.block ≠ T := fun e2 => h.zapart _ ⟨ad, e, rfl⟩ ⟨0, e2⟩
   refine ⟨ad, e, by rw [hsz]; exact Nat.lt_of_lt_of_le hb hg.size, fun i hi => ?_⟩
   rw [← hc i hi]
   refine World.cell?_of_block ?_
   rw [za7, hoth _ hbd]
   refine hg.block _ hb (fun e3 => ?_)
   cases hd : v.dA with
   | none => rw [hd] at e3; cases e3
   | some ad2 => rw [hd] at e3; injection e3 with e3; exact h.zapart _ ⟨ad, e, rfl⟩ ⟨2, ad2, hd, e3.symm⟩
  zb := h.zb
  baseL := h.baseL
  lrow := by
   obtain ⟨F, hF, h1⟩ := h.lrow
   exact ⟨F, (hF.of_block (hkeep 1 _ rfl (by omega))).of_block (hoth _ (h0 1 _ rfl (by omega))), h1⟩
  lcap := h.lcap
  lv := fun k hk => ((h.lv k hk).blk fun ad e => hkeep (k + 3) _ ⟨hk, ad, e, rfl⟩ (by omega)).blk fun ad e => hoth _ (h0 (k + 3) _ ⟨hk, ad, e, rfl⟩ (by omega))
  dr := ho.blk fun ad e => hoth _ (hAT _ ⟨ad, e, rfl⟩)
  apart := by
   have key : ∀ r b, (TV.role { v with dA := A', dn := n', dc := c', dw := dw' } T r b) → (v.role T r b ∨ (r = 2 ∧ OnA A' b)) := fun r b hr => by
    match r, hr with
    | 0, hr => exact .inl hr
    | 1, hr => exact .inl hr
    | 2, hr => exact .inr ⟨rfl, hr⟩
    | k + 3, hr => exact .inl hr
   have key2 : ∀ r b, v.role T r b → OnA A' b → r = 2 := fun r b hr hb => by
    rcases hA b hb with h1 | h1
    ·exact h.apart r 2 b hr h1
    ·have := h.lt ⟨r, hr⟩; omega
   intro r r' b h1 h2
   rcases key r b h1 with k1 | ⟨e1, k1⟩ <;> rcases key r' b h2 with k2 | ⟨e2, k2⟩
   ·exact h.apart r r' b k1 k2
   ·rw [e2]; exact key2 r b k1 k2
   ·rw [e1]; exact (key2 r' b k2 k1).symm
   ·rw [e1, e2]
  zapart := by
   rintro b hb ⟨r, hr⟩
   match r, hr with
   | 0, hr => exact h.zapart b hb ⟨0, hr⟩
   | 1, hr => exact h.zapart b hb ⟨1, hr⟩
   | 2, hr =>
    rcases hA b hr with h1 | h1
    ·exact h.zapart b hb ⟨2, h1⟩
    ·have := h.zlt hb; omega
   | k + 3, hr => exact h.zapart b hb ⟨k + 3, hr⟩ }
theorem TM.setL (h : TM w base T v) {k : Nat} (hk : k ≤ v.D) {A' : Option Addr} {n' c' : Nat} {g' : Nat → Nat} (hg : w.grownBy w' ((v.lA k).map (·.block))) (ho : OwnZ w' base 24 32 A' n' c' (u8v g')) (hA : ∀ b, OnA A' b → OnA (v.lA k) b ∨ w.heap.size ≤ b) :
 TM (w'.setCell ⟨v.lb, k, none⟩ (.slice A' n' c')) base T { v with lA := fun j => if j = k then A' else v.lA j, lm := fun j => if j = k then n' else v.lm j, lk := fun j => if j = k then c' else v.lk j, g := fun j => if j = k then g' else v.g j } := by
 have hne : ∀ r b, v.role T r b → r ≠ k + 3 → some b ≠ (v.lA k).map (·.block) := fun r b hr hn e => by
  cases hd : v.lA k with
  | none => rw [hd] at e; cases e
  | some ad => rw [hd] at e; injection e with e; exact hn (h.apart r (k + 3) b hr ⟨hk, ad, hd, e.symm⟩)
 have hkeep : ∀ r b, v.role T r b → r ≠ k + 3 → w'.heap[b]? = w.heap[b]? := fun r b hr hn => hg.block b (h.lt ⟨r, hr⟩) (hne r b hr hn)
 have hoth : ∀ b, b ≠ v.lb → (w'.setCell ⟨v.lb, k, none⟩ (.slice A' n' c')).heap[b]? = w'.heap[b]? := fun b hb => Below.heap_setCell w' _ _ b hb
 have hsz : (w'.setCell ⟨v.lb, k, none⟩ (.slice A' n' c')).heap.size = w'.heap.size := by simp [World.setCell]
 have h0 : ∀ r b, v.role T r b → r ≠ 1 → b ≠ v.lb := fun r b hr hn e => hn (h.apart r 1 b hr e)
 have hlb : v.lb < w.heap.size := by obtain ⟨F, hF, _⟩ := h.lrow; exact hF.lt
 have hAT : ∀ b, OnA A' b → b ≠ v.lb := fun b hb e => by
  rcases hA b hb with h1 | h1
  ·exact h0 (k + 3) b ⟨hk, h1⟩ (by omega) e
  ·omega
 have key : ∀ r b, (TV.role { v with lA := fun j => if j = k then A' else v.lA j, lm := fun j => if j = k then n' else v.lm j, lk := fun j => if j = k then c' else v.lk j, g := fun j => if j = k then g' else v.g j } T r b) → (v.role T r b ∨ (r = k + 3 ∧ OnA A' b)) := fun r b hr => by
  match r, hr with
  | 0, hr => exact .inl hr
  | 1, hr => exact .inl hr
  | 2, hr => exact .inl hr
  | j + 3, hr =>
   obtain ⟨hj, hr⟩ := hr
   simp only at hj hr
   by_cases e : j = k
   ·subst e; rw [if_pos rfl] at hr; exact .inr ⟨rfl, hr⟩
   ·rw [if_neg e] at hr; exact .inl ⟨hj, hr⟩
 exact {
  baseT := h.baseT
  row := (h.row.of_block (hkeep 0 T rfl (by omega))).of_block (hoth _ (h0 0 _ rfl (by omega)))
  zr := by
   intro hz
   obtain ⟨ad, e, hb, hc⟩ := h.zr hz
   have hbd : ad.block ≠ v.lb := fun e2 => h.zapart _ ⟨ad, e, rfl⟩ ⟨1, e2⟩
   refine ⟨ad, e, by rw [hsz]; exact Nat.lt_of_lt_of_le hb hg.size, fun i hi => ?_⟩
   rw [← hc i hi]
   refine World.cell?_of_block ?_
   rw [za7, hoth _ hbd]
   refine hg.block _ hb (fun e3 => ?_)
   cases hd : v.lA k with
   | none => rw [hd] at e3; cases e3
   | some ad2 => rw [hd] at e3; injection e3 with e3; exact h.zapart _ ⟨ad, e, rfl⟩ ⟨k + 3, hk, ad2, hd, e3.symm⟩
  zb := h.zb
  baseL := h.baseL
  lrow := by
   obtain ⟨F, hF, h1⟩ := h.lrow
   refine ⟨_, (hF.of_block (hkeep 1 _ rfl (by omega))).set k (.slice A' n' c'), fun j hj => ?_⟩
   simp only
   by_cases e : j = k
   ·subst e; rw [if_pos rfl, if_pos rfl, if_pos rfl, if_pos rfl]
   ·rw [if_neg e, if_neg e, if_neg e, if_neg e]; exact h1 j hj
  lcap := h.lcap
  lv := fun j hj => by
   simp only
   by_cases e : j = k
   ·subst e; rw [if_pos rfl, if_pos rfl, if_pos rfl, if_pos rfl]
    exact ho.blk fun ad e => hoth _ (hAT _ ⟨ad, e, rfl⟩)
   ·rw [if_neg e, if_neg e, if_neg e, if_neg e]
    exact ((h.lv j hj).blk fun ad e2 => hkeep (j + 3) _ ⟨hj, ad, e2, rfl⟩ (by omega)).blk fun ad e2 => hoth _ (h0 (j + 3) _ ⟨hj, ad, e2, rfl⟩ (by omega))
  dr := (h.dr.blk fun ad e => hkeep 2 _ ⟨ad, e, rfl⟩ (by omega)).blk fun ad e => hoth _ (h0 2 _ ⟨ad, e, rfl⟩ (by omega))
  apart := by
   have key2 : ∀ r b, v.role T r b → OnA A' b → r = k + 3 := fun r b hr hb => by
    rcases hA b hb with h1 | h1
    ·exact h.apart r (k + 3) b hr ⟨hk, h1⟩
    ·have := h.lt ⟨r, hr⟩; omega
   intro r r' b h1 h2
   rcases key r b h1 with k1 | ⟨e1, k1⟩ <;> rcases key r' b h2 with k2 | ⟨e2, k2⟩
   ·exact h.apart r r' b k1 k2
   ·rw [e2]; exact key2 r b k1 k2
   ·rw [e1]; exact (key2 r' b k2 k1).symm
   ·rw [e1, e2]
  zapart := by
   rintro b hb ⟨r, hr⟩
   rcases key r b hr with h1 | ⟨_, h1⟩
   ·exact h.zapart b hb ⟨r, h1⟩
   ·rcases hA b h1 with h2 | h2
    ·exact h.zapart b hb ⟨k + 3, hk, h2⟩
    ·have := h.zlt hb; omega }
end
abbrev tpV (T : Nat) : Value := .pointer (some ⟨T, 0, none⟩)
namespace TreeFn
theorem idx0 (w : World) (b n c : Nat) (hn : 0 < n) : (Instr.indexAt 134 (.slice (some ⟨b, 0, none⟩) n c) (.int .i64 0)).run Tryd.prog w = .ok (.pointer (some ⟨b, 0, none⟩)) w := by
 have h := zaw (z := 1) (k := 0) (P := Tryd.prog) (c := c) w Ty134 (by kernel_rfl) ⟨b, 0, none⟩ hn
 rw [zai] at h
 exact h
end TreeFn
section
variable {w : World} {base T : Nat} {v : TV}
theorem TM.c0 (h : TM w base T v) : w.cell? ⟨T, 0, none⟩ = some (.int .i64 (v.lim : Int)) := h.cell 0 (by omega)
theorem TM.c1 (h : TM w base T v) : w.cell? ⟨T, 1, none⟩ = some (.slice v.zA (v.D + 1) v.zc) := h.cell 1 (by omega)
theorem TM.c2 (h : TM w base T v) : w.cell? ⟨T, 2, none⟩ = some (.slice (some ⟨v.lb, 0, none⟩) (v.D + 1) v.lc) := h.cell 2 (by omega)
theorem TM.c3 (h : TM w base T v) : w.cell? ⟨T, 3, none⟩ = some (.slice v.dA v.dn v.dc) := h.cell 3 (by omega)
theorem TM.c4 (h : TM w base T v) : w.cell? ⟨T, 4, none⟩ = some (.int .i64 (v.H : Int)) := h.cell 4 (by omega)
end
open TreeFn in
theorem zd6 (v : TV) (base T : Nat) (w : World) (h : TM w base T v) :
 Calls Tryd.prog 80 #[tpV T] w fun r w' => r = .returned (.int .i64 ((v.lm 0 : Nat) : Int)) ∧ w' = w := by
 have h2 := h.c2
 have h0 := h.level (k := 0) (Nat.zero_le _)
 obtain ⟨D, hD⟩ : ∃ D, v.D + 1 = D + 1 := ⟨_, rfl⟩
 rw [hD] at h2
 clear h hD
 go_enter Tryd.func80, Tryd.ntmps80
 go_wp2_with (refine zab rfl 9 rfl (.pointer (some ⟨v.lb, 0, none⟩)) ?_ ?_; (· exact zbb rfl rfl rfl (fun w => idx0 w _ _ _ (by omega)) _))
 go_ret
 exact ⟨rfl, rfl⟩
section
variable {w w' : World} {base T : Nat} {v : TV}
theorem TM.other2 (h : TM w base T v) {r0 : Nat} {A : Option Addr} (hA : ∀ b, OnA A b → v.role T r0 b) (hg : w.grownBy w' (A.map (·.block))) : (∀ r b, v.role T r b → r ≠ r0 → w'.heap[b]? = w.heap[b]?) ∧ ∀ b, OnA v.zA b → w'.heap[b]? = w.heap[b]? := by
 refine ⟨fun r b hr hn => hg.block b (h.lt ⟨r, hr⟩) (fun e => ?_), fun b hb => hg.block b (h.zlt hb) (fun e => ?_)⟩
 ·cases hd : A with
  | none => rw [hd] at e; cases e
  | some ad => rw [hd] at e; injection e with e; exact hn (h.apart r r0 b hr (hA b ⟨ad, hd, e.symm⟩))
 ·cases hd : A with
  | none => rw [hd] at e; cases e
  | some ad => rw [hd] at e; injection e with e; exact h.zapart b hb ⟨r0, hA b ⟨ad, hd, e.symm⟩⟩
theorem TM.setW (h : TM w base T v) {dw' : Nat → Nat} (hg : w.grownBy w' (v.dA.map (·.block))) (ho : OwnZ w' base 22 1 v.dA v.dn v.dc (u64v dw')) : TM w' base T { v with dw := dw' } := by
 obtain ⟨hk, hz⟩ := h.other2 (r0 := 2) (A := v.dA) (fun b hb => hb) hg
 exact {
  baseT := h.baseT
  row := h.row.of_block (hk 0 T rfl (by omega))
  zr := by
   intro h0
   obtain ⟨ad, e, hb, hc⟩ := h.zr h0
   refine ⟨ad, e, Nat.lt_of_lt_of_le hb hg.size, fun i hi => ?_⟩
   rw [← hc i hi]
   exact World.cell?_of_block (by rw [za7]; exact hz _ ⟨ad, e, rfl⟩)
  zb := h.zb
  baseL := h.baseL
  lrow := by
   obtain ⟨F, hF, h1⟩ := h.lrow
   exact ⟨F, hF.of_block (hk 1 v.lb rfl (by omega)), h1⟩
  lcap := h.lcap
  lv := fun k hk2 => (h.lv k hk2).blk fun ad e => hk (k + 3) _ ⟨hk2, ad, e, rfl⟩ (by omega)
  dr := ho
  apart := h.apart
  zapart := h.zapart }
theorem TM.setG (h : TM w base T v) {k : Nat} (hkD : k ≤ v.D) {g' : Nat → Nat} (hg : w.grownBy w' ((v.lA k).map (·.block))) (ho : OwnZ w' base 24 32 (v.lA k) (v.lm k) (v.lk k) (u8v g')) : TM w' base T { v with g := fun j => if j = k then g' else v.g j } := by
 obtain ⟨hk, hz⟩ := h.other2 (r0 := k + 3) (A := v.lA k) (fun b hb => ⟨hkD, hb⟩) hg
 exact {
  baseT := h.baseT
  row := h.row.of_block (hk 0 T rfl (by omega))
  zr := by
   intro h0
   obtain ⟨ad, e, hb, hc⟩ := h.zr h0
   refine ⟨ad, e, Nat.lt_of_lt_of_le hb hg.size, fun i hi => ?_⟩
   rw [← hc i hi]
   exact World.cell?_of_block (by rw [za7]; exact hz _ ⟨ad, e, rfl⟩)
  zb := h.zb
  baseL := h.baseL
  lrow := by
   obtain ⟨F, hF, h1⟩ := h.lrow
   exact ⟨F, hF.of_block (hk 1 v.lb rfl (by omega)), h1⟩
  lcap := h.lcap
  lv := fun j hj => by
   simp only
   by_cases e : j = k
   ·subst e; rw [if_pos rfl]; exact ho
   ·rw [if_neg e]; exact (h.lv j hj).blk fun ad e2 => hk (j + 3) _ ⟨hj, ad, e2, rfl⟩ (by omega)
  dr := h.dr.blk fun ad e => hk 2 _ ⟨ad, e, rfl⟩ (by omega)
  apart := h.apart
  zapart := h.zapart }
end
structure TStep (w w' : World) (T : Nat) (v v' : TV) : Prop where
 chg : Chg (v.own T) w w'
 new : ∀ b, v'.own T b → v.own T b ∨ w.heap.size ≤ b
 zA : v'.zA = v.zA
 D : v'.D = v.D
 lim : v'.lim = v.lim
section
variable {w w1 w' : World} {base T : Nat} {v v1 v' : TV}
theorem TStep.refl (h : Below w.heap.size w w') : TStep w w' T v v := ⟨(Chg.of_below h).mono (fun _ _ h => h), fun _ hb => .inl hb, rfl, rfl, rfl⟩
theorem TStep.trans (h : TStep w w1 T v v1) (k : TStep w1 w' T v1 v') : TStep w w' T v v' :=
 ⟨h.chg.trans k.chg h.new, fun _ hb => by
  rcases k.new _ hb with h1 | h1
  ·exact h.new _ h1
  ·exact .inr (lT h.chg.size h1), k.zA.trans h.zA, k.D.trans h.D, k.lim.trans h.lim⟩
theorem TStep.below (h : TStep w w' T v v') (hm : TM w base T v) {B : Nat} (hB : B ≤ base) (hBw : B ≤ w.heap.size) : Below B w w' := h.chg.below hBw (fun _ hb => lT hB (hm.ge hb))
end
section
variable {w w' : World} {base T : Nat} {v : TV}
theorem zeo {A : Option Addr} {k : Nat} (h : some k = A.map (·.block)) : OnA A k := by
 cases hd : A with
 | none => rw [hd] at h; cases h
 | some ad => rw [hd] at h; injection h with h; exact ⟨ad, rfl, h.symm⟩
theorem TStep.ofSet {r : Option Nat} (hg : w.grownBy w' r) {b i : Nat} (u : Value) {v' : TV} (hr : ∀ k, some k = r → v.own T k) (hb : v.own T b) (hn : ∀ b, v'.own T b → v.own T b ∨ w.heap.size ≤ b) (hz : v'.zA = v.zA) (hD : v'.D = v.D) (hl : v'.lim = v.lim) : TStep w (w'.setCell ⟨b, i, none⟩ u) T v v' :=
 ⟨⟨hg.os, hg.tape, hg.output, by simpa [World.setCell] using hg.size, fun k hk hno => (Below.heap_setCell w' _ _ k (fun e => hno (by rw [show k = b from e]; exact hb))).trans (hg.block k hk (fun e => hno (hr k e)))⟩, hn, hz, hD, hl⟩
theorem TStep.ofD {A' : Option Addr} {n' c' : Nat} {dw' : Nat → Nat} (hg : w.grownBy w' (v.dA.map (·.block))) (hA : ∀ b, OnA A' b → OnA v.dA b ∨ w.heap.size ≤ b) : TStep w (w'.setCell ⟨T, 3, none⟩ (.slice A' n' c')) T v { v with dA := A', dn := n', dc := c', dw := dw' } :=
 TStep.ofSet hg _ (fun _ e => ⟨2, zeo e⟩) ⟨0, rfl⟩ (fun b ⟨r, hr⟩ => by
  match r, hr with
  | 0, hr => exact .inl ⟨0, hr⟩
  | 1, hr => exact .inl ⟨1, hr⟩
  | 2, hr =>
   rcases hA b hr with h1 | h1
   ·exact .inl ⟨2, h1⟩
   ·exact .inr h1
  | k + 3, hr => exact .inl ⟨k + 3, hr⟩) rfl rfl rfl
theorem TStep.ofW {dw' : Nat → Nat} (hg : w.grownBy w' (v.dA.map (·.block))) : TStep w w' T v { v with dw := dw' } :=
 ⟨Chg.of_grown hg (fun _ e => .inl ⟨2, zeo e.symm⟩), fun _ ⟨r, hr⟩ => .inl ⟨r, hr⟩, rfl, rfl, rfl⟩
theorem TStep.ofG {k : Nat} (hk : k ≤ v.D) {g' : Nat → Nat → Nat} (hg : w.grownBy w' ((v.lA k).map (·.block))) : TStep w w' T v { v with g := g' } :=
 ⟨Chg.of_grown hg (fun _ e => .inl ⟨k + 3, hk, zeo e.symm⟩), fun _ ⟨r, hr⟩ => .inl ⟨r, hr⟩, rfl, rfl, rfl⟩
theorem TStep.ofH (H' : Nat) : TStep w (w.setCell ⟨T, 4, none⟩ (.int .i64 (H' : Int))) T v { v with H := H' } :=
 TStep.ofSet (World.grownBy.refl w none) _ (fun _ e => by cases e) ⟨0, rfl⟩ (fun _ ⟨r, hr⟩ => .inl ⟨r, hr⟩) rfl rfl rfl
theorem TStep.ofL {k : Nat} (hk : k ≤ v.D) {A' : Option Addr} {n' c' : Nat} {g' : Nat → Nat} (hg : w.grownBy w' ((v.lA k).map (·.block))) (hA : ∀ b, OnA A' b → OnA (v.lA k) b ∨ w.heap.size ≤ b) :
 TStep w (w'.setCell ⟨v.lb, k, none⟩ (.slice A' n' c')) T v { v with lA := fun j => if j = k then A' else v.lA j, lm := fun j => if j = k then n' else v.lm j, lk := fun j => if j = k then c' else v.lk j, g := fun j => if j = k then g' else v.g j } :=
 TStep.ofSet hg _ (fun _ e => ⟨k + 3, hk, zeo e⟩) ⟨1, rfl⟩ (fun b ⟨r, hr⟩ => by
  match r, hr with
  | 0, hr => exact .inl ⟨0, hr⟩
  | 1, hr => exact .inl ⟨1, hr⟩
  | 2, hr => exact .inl ⟨2, hr⟩
  | j + 3, hr =>
   obtain ⟨hj, hr⟩ := hr
   simp only at hj hr
   by_cases e : j = k
   ·rw [if_pos e] at hr
    rcases hA b hr with h1 | h1
    ·exact .inl ⟨k + 3, hk, h1⟩
    ·exact .inr h1
   ·rw [if_neg e] at hr; exact .inl ⟨j + 3, hj, hr⟩) rfl rfl rfl
theorem zgp {A A' : Option Addr} (ha : ∀ ad, A' = some ad → some ad.block = A.map (·.block) ∨ ad.block = w.heap.size) : ∀ b, OnA A' b → OnA A b ∨ w.heap.size ≤ b := fun b ⟨ad, e, hb⟩ => by
 rcases ha ad e with h1 | h1
 ·exact .inl (zeo (by rw [← hb]; exact h1))
 ·exact .inr (by omega)
theorem TM.rowD (h : TM w base T v) {r0 : Nat} (h0 : r0 ≠ 0) {A : Option Addr} (hA : ∀ b, OnA A b → v.role T r0 b) (hg : w.grownBy w' (A.map (·.block))) : w'.rowIs T 136 5 v.F := h.row.of_block ((h.other2 hA hg).1 0 T rfl (by omega))
theorem TM.base_le (h : TM w base T v) : base ≤ w.heap.size := Nat.le_of_lt (Nat.lt_of_le_of_lt h.baseT h.row.lt)
end
theorem zdu {P : Program} {ops : Array Oper} {rest : List Oper} {o : Oper} {a : Act} {w : World} {Q : Exit → Act → World → Prop} (hgd : o.guard = none) (ty : TypeId) (x y : Operand) (ho : o.op = .store ty x y) {b n : Nat} {t : TypeId} {f : Nat → Value} (hr : w.rowIs b t n f) (k : Nat) (hk : k < n) (v : Value)
    (hst : ∀ (w : World) (ad : Addr) (u : Value), w.cell? ad = some u → w.frozen? ad = false → (Instr.storeAt ty (.pointer (some ad)) v).run P w = .ok () (w.setCell ad v)) (hx : a.eval x = .pointer (some ⟨b, k, none⟩)) (hy : a.eval y = v)
    (hK : wpList P ops Q rest (a.put o.dst undef) (w.setCell ⟨b, k, none⟩ v)) : wpList P ops Q (o :: rest) a w :=
 wpList_plain hgd fun _ hK' => by
  have hs : HS w w [⟨b, t, n, f⟩] := (HS.nil w).take hr (by simp)
  have hrun := hst w ⟨b, k, none⟩ _ (hs.cell 0 k rfl hk) (hs.frozen 0 k rfl)
  unfold Oper.wp execOp
  simp only [ho, hx, hy, Sem.run_bind, hrun, Result.andThen_ok, Sem.run_pure]
  exact hK' _ _ hK
theorem zmg {P : Program} {o : Oper} {a : Act} {w : World} {K : Act → World → Prop} {Q : Exit → Act → World → Prop} (ty : TypeId) (x y : Operand) (ho : o.op = .store ty x y) {b n : Nat} {t : TypeId} {f : Nat → Value} (hr : w.rowIs b t n f) (k : Nat) (hk : k < n) (v : Value)
    (hst : ∀ (w : World) (ad : Addr) (u : Value), w.cell? ad = some u → w.frozen? ad = false → (Instr.storeAt ty (.pointer (some ad)) v).run P w = .ok () (w.setCell ad v)) (hx : a.eval x = .pointer (some ⟨b, k, none⟩)) (hy : a.eval y = v)
    (hK : K (a.put o.dst undef) (w.setCell ⟨b, k, none⟩ v)) : o.wp P a w K Q := by
 have hs : HS w w [⟨b, t, n, f⟩] := (HS.nil w).take hr (by simp)
 have hrun := hst w ⟨b, k, none⟩ _ (hs.cell 0 k rfl hk) (hs.frozen 0 k rfl)
 unfold Oper.wp execOp
 simp only [ho, hx, hy, Sem.run_bind, hrun, Result.andThen_ok, Sem.run_pure]
 exact hK
theorem OwnZ.setC {w : World} {base z n c b : Nat} {e : TypeId} {f g : Nat → Value} (h : OwnZ w base e z (some ⟨b, 0, none⟩) n c f) (k : Nat) (v : Value) (hg : ∀ j, j < n * z → (if j = k then v else f j) = g j) : OwnZ (w.setCell ⟨b, k, none⟩ v) base e z (some ⟨b, 0, none⟩) n c g ∧ w.grownBy (w.setCell ⟨b, k, none⟩ v) (some b) := by
 obtain ⟨F, hr, hF, hb⟩ := h.row
 refine ⟨OwnZ.of_rowC (hr.set k v) hb h.cap h.capM (fun i hi => by rw [← hg i hi]; simp only [hF i hi]), zbv (World.grownBy.refl _ _) (.inl rfl) _⟩
theorem zdv {w : World} {base z n c : Nat} {e : TypeId} {A : Option Addr} {f : Nat → Value} (h : OwnZ w base e z A n c f) (hn : 0 < n) : ∃ bl, A = some ⟨bl, 0, none⟩ := by
 obtain ⟨g, cap, hv, hb, hlt⟩ := World.ownsRow.form h hn
 exact ⟨g, by injection hv⟩
namespace PickRich
theorem zql {p : Prop} (h : Hid p) : p := h.out
end PickRich
end Go.Proofs.YtomilckcgmhfcaaDoor
