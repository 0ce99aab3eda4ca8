/- What ShaCuts keeps from round to round: its digest, the copies and where each was taken. -/
import Derived.Test.YtlklomaekimjlaaDoorShaAll
namespace Go.Proofs.YtlklomaekimjlaaDoor
open Go.RowKit
namespace ShaCutsLaw
abbrev pF (G : Nat → Nat) : Nat → Value := fun j => .pointer (some ⟨G j, 0, none⟩)
abbrev eF (E : Nat → Nat) : Nat → Value := fun j => .int .i64 ((E j : Nat) : Int)
def upd (G : Nat → Nat) (m v : Nat) : Nat → Nat := fun j => if j < m then G j else v
theorem upd_lt {G : Nat → Nat} {m v j : Nat} (h : j < m) : upd G m v j = G j := if_pos h
theorem upd_eq {G : Nat → Nat} {m v : Nat} : upd G m v m = v := if_neg (Nat.lt_irrefl _)

/-- w: the world of the call; wr: now. j0: copies before it are done with. l1, l2: how many copies and ends are listed; m: how many there are. -/
structure Cst (w wr : World) (n : Nat) (x : Nat → Nat) (g M j0 l1 l2 m : Nat) (A : Option Addr) (c : Nat) (A2 : Option Addr) (c2 : Nat) (G E : Nat → Nat) : Prop where
  own1 : Own wr w.heap.size 29 A l1 c (pF G)
  own2 : Own wr w.heap.size 3 A2 l2 c2 (eF E)
  le1 : l1 ≤ m
  le2 : l2 ≤ m
  dig : Dig wr g x M
  hiG : w.heap.size ≤ g
  digs : ∀ j, j0 ≤ j → j < m → Dig wr (G j) x (E j)
  low : ∀ j, j < m → w.heap.size ≤ G j ∧ E j ≤ n ∧ G j < wr.heap.size ∧ G j ≠ g
  inj : ∀ i j, i < m → j < m → i ≠ j → G i ≠ G j
  s1 : ∀ ad, A = some ad → ad.block ≠ g ∧ ∀ j, j < m → G j ≠ ad.block
  s2 : ∀ ad, A2 = some ad → ad.block ≠ g ∧ ∀ j, j < m → G j ≠ ad.block
  s12 : ∀ a b, A = some a → A2 = some b → a.block ≠ b.block
  bel : Below w.heap.size w wr

section
variable {w wr w' : World} {n : Nat} {x : Nat → Nat} {g M j0 l1 l2 m : Nat} {A : Option Addr} {c : Nat} {A2 : Option Addr} {c2 : Nat} {G E : Nat → Nat}
theorem Cst.start (hd : Dig wr g x 0) (hg : w.heap.size ≤ g) (hb : Below w.heap.size w wr) : Cst w wr n x g 0 0 0 0 0 none 0 none 0 G E where
  own1 := Own.nil _ _ _ _
  own2 := Own.nil _ _ _ _
  le1 := Nat.le_refl _
  le2 := Nat.le_refl _
  dig := hd
  hiG := hg
  digs := fun j _ h => absurd h (Nat.not_lt_zero _)
  low := fun j h => absurd h (Nat.not_lt_zero _)
  inj := fun i j h => absurd h (Nat.not_lt_zero _)
  s1 := fun _ h => by cases h
  s2 := fun _ h => by cases h
  s12 := fun _ _ h => by cases h
  bel := hb
/-- Memory changes in one block that is none of these, or in none. -/
theorem Cst.other (h : Cst w wr n x g M j0 l1 l2 m A c A2 c2 G E) {row : Option Nat} (hg : wr.grownBy w' row) (h0 : ∀ b, row = some b → w.heap.size ≤ b) (hne : ∀ b, row = some b → b < wr.heap.size → b ≠ g ∧ (∀ j, j < m → b ≠ G j) ∧ (∀ ad, A = some ad → ad.block ≠ b) ∧ ∀ ad, A2 = some ad → ad.block ≠ b) :
    Cst w w' n x g M j0 l1 l2 m A c A2 c2 G E where
  own1 := h.own1.kept hg fun ad ha e => (hne _ e.symm ((h.own1.base_le ad ha).2)).2.2.1 ad ha rfl
  own2 := h.own2.kept hg fun ad ha e => (hne _ e.symm ((h.own2.base_le ad ha).2)).2.2.2 ad ha rfl
  le1 := h.le1
  le2 := h.le2
  dig := h.dig.of_block (hg.block _ h.dig.lt fun e => (hne _ e.symm h.dig.lt).1 rfl)
  hiG := h.hiG
  digs := fun j hj hm => (h.digs j hj hm).of_block (hg.block _ (h.digs j hj hm).lt fun e => (hne _ e.symm (h.digs j hj hm).lt).2.1 j hm rfl)
  low := fun j hj => ⟨(h.low j hj).1, (h.low j hj).2.1, Nat.lt_of_lt_of_le (h.low j hj).2.2.1 hg.size, (h.low j hj).2.2.2⟩
  inj := h.inj
  s1 := h.s1
  s2 := h.s2
  s12 := h.s12
  bel := h.bel.grown hg h.bel.size h0
theorem Cst.below (h : Cst w wr n x g M j0 l1 l2 m A c A2 c2 G E) (hb : Below wr.heap.size wr w') : Cst w w' n x g M j0 l1 l2 m A c A2 c2 G E :=
  h.other (grown_of_below hb none) (fun _ e => by cases e) (fun _ e => by cases e)
/-- Bytes are written into the digest. -/
theorem Cst.write (h : Cst w wr n x g M j0 l1 l2 m A c A2 c2 G E) (hg : wr.grownBy w' (some g)) {M' : Nat} (hd : Dig w' g x M') : Cst w w' n x g M' j0 l1 l2 m A c A2 c2 G E where
  own1 := h.own1.kept hg fun ad ha e => (h.s1 ad ha).1 (by injection e)
  own2 := h.own2.kept hg fun ad ha e => (h.s2 ad ha).1 (by injection e)
  le1 := h.le1
  le2 := h.le2
  dig := hd
  hiG := h.hiG
  digs := fun j hj hm => (h.digs j hj hm).of_block (hg.block _ (h.digs j hj hm).lt fun e => (h.low j hm).2.2.2 (by injection e))
  low := fun j hj => ⟨(h.low j hj).1, (h.low j hj).2.1, Nat.lt_of_lt_of_le (h.low j hj).2.2.1 hg.size, (h.low j hj).2.2.2⟩
  inj := h.inj
  s1 := h.s1
  s2 := h.s2
  s12 := h.s12
  bel := h.bel.grown hg h.bel.size fun b e => by injection e with e; subst e; exact h.hiG
/-- Bytes are written into the first copy that is not done with. -/
theorem Cst.writeJ (h : Cst w wr n x g M j0 l1 l2 m A c A2 c2 G E) (hj : j0 < m) (hg : wr.grownBy w' (some (G j0))) : Cst w w' n x g M (j0 + 1) l1 l2 m A c A2 c2 G E where
  own1 := h.own1.kept hg fun ad ha e => (h.s1 ad ha).2 j0 hj (by injection e with e; exact e.symm)
  own2 := h.own2.kept hg fun ad ha e => (h.s2 ad ha).2 j0 hj (by injection e with e; exact e.symm)
  le1 := h.le1
  le2 := h.le2
  dig := h.dig.of_block (hg.block _ h.dig.lt fun e => (h.low j0 hj).2.2.2 (by injection e with e; exact e.symm))
  hiG := h.hiG
  digs := fun j hj1 hm => (h.digs j (by omega) hm).of_block (hg.block _ (h.digs j (by omega) hm).lt fun e => h.inj j j0 hm hj (by omega) (by injection e))
  low := fun j hj => ⟨(h.low j hj).1, (h.low j hj).2.1, Nat.lt_of_lt_of_le (h.low j hj).2.2.1 hg.size, (h.low j hj).2.2.2⟩
  inj := h.inj
  s1 := h.s1
  s2 := h.s2
  s12 := h.s12
  bel := h.bel.grown hg h.bel.size fun b e => by injection e with e; subst e; exact (h.low j0 hj).1
/-- A copy is taken. -/
theorem Cst.copy (h : Cst w wr n x g M 0 l1 l2 m A c A2 c2 G E) (hM : M ≤ n) {g' : Nat} (hb : Below wr.heap.size wr w') (hg' : wr.heap.size ≤ g') (hd : Dig w' g' x M) :
    Cst w w' n x g M 0 l1 l2 (m + 1) A c A2 c2 (upd G m g') (upd E m M) := by
  have k := h.below hb
  have hw := h.bel.size
  refine ⟨k.own1.congr fun i hi => ?_, k.own2.congr fun i hi => ?_, by have := h.le1; omega, by have := h.le2; omega, k.dig, k.hiG, fun j _ hj => ?_, fun j hj => ?_, fun i j hi hj hij => ?_, fun ad ha => ⟨(k.s1 ad ha).1, fun j hj => ?_⟩, fun ad ha => ⟨(k.s2 ad ha).1, fun j hj => ?_⟩, k.s12, k.bel⟩
  · have := h.le1; show pF G i = pF _ i; unfold pF; rw [upd_lt (by omega)]
  · have := h.le2; show eF E i = eF _ i; unfold eF; rw [upd_lt (by omega)]
  · by_cases hjm : j < m
    · rw [upd_lt hjm, upd_lt hjm]; exact k.digs j (Nat.zero_le _) hjm
    · obtain rfl : j = m := by omega
      rw [upd_eq, upd_eq]; exact hd
  · by_cases hjm : j < m
    · rw [upd_lt hjm, upd_lt hjm]; exact k.low j hjm
    · obtain rfl : j = m := by omega
      rw [upd_eq, upd_eq]
      have := h.dig.lt
      exact ⟨by omega, hM, hd.lt, by omega⟩
  · by_cases him : i < m <;> by_cases hjm : j < m
    · rw [upd_lt him, upd_lt hjm]; exact k.inj i j him hjm hij
    · obtain rfl : j = m := by omega
      rw [upd_lt him, upd_eq]; have := (h.low i him).2.2.1; omega
    · obtain rfl : i = m := by omega
      rw [upd_lt hjm, upd_eq]; have := (h.low j hjm).2.2.1; omega
    · omega
  · by_cases hjm : j < m
    · rw [upd_lt hjm]; exact (k.s1 ad ha).2 j hjm
    · obtain rfl : j = m := by omega
      rw [upd_eq]; have := (h.own1.base_le ad ha).2; omega
  · by_cases hjm : j < m
    · rw [upd_lt hjm]; exact (k.s2 ad ha).2 j hjm
    · obtain rfl : j = m := by omega
      rw [upd_eq]; have := (h.own2.base_le ad ha).2; omega
/-- The copy is listed. -/
theorem Cst.app1 (h : Cst w wr n x g M j0 l1 l2 m A c A2 c2 G E) (hl : l1 < m) {A' : Option Addr} {c' : Nat} (ho : Own w' w.heap.size 29 A' (l1 + 1) c' (pF G)) (hg : wr.grownBy w' (A.map (·.block)))
    (hA : ∀ ad, A' = some ad → some ad.block = A.map (·.block) ∨ ad.block = wr.heap.size) : Cst w w' n x g M j0 (l1 + 1) l2 m A' c' A2 c2 G E := by
  have hrow : ∀ b, A.map (·.block) = some b → ∃ ad, A = some ad ∧ ad.block = b := by
    intro b hb; cases A with
    | none => cases hb
    | some ad => exact ⟨ad, rfl, by injection hb⟩
  refine ⟨ho, h.own2.kept hg fun ad ha e => ?_, by omega, h.le2, h.dig.of_block (hg.block _ h.dig.lt fun e => ?_), h.hiG, fun j hj hm => (h.digs j hj hm).of_block (hg.block _ (h.digs j hj hm).lt fun e => ?_),
    fun j hj => ⟨(h.low j hj).1, (h.low j hj).2.1, Nat.lt_of_lt_of_le (h.low j hj).2.2.1 hg.size, (h.low j hj).2.2.2⟩, h.inj, fun ad ha => ?_, h.s2, fun a b ha hb => ?_, h.bel.grown hg h.bel.size fun b e => ?_⟩
  · obtain ⟨a1, h1, h2⟩ := hrow _ e.symm; exact h.s12 a1 ad h1 ha h2
  · obtain ⟨a1, h1, h2⟩ := hrow _ e.symm; exact (h.s1 a1 h1).1 h2
  · obtain ⟨a1, h1, h2⟩ := hrow _ e.symm; exact (h.s1 a1 h1).2 j hm h2.symm
  · rcases hA ad ha with e | e
    · obtain ⟨a1, h1, h2⟩ := hrow _ e.symm; rw [← h2]; exact h.s1 a1 h1
    · rw [e]; exact ⟨by have := h.dig.lt; omega, fun j hj => by have := (h.low j hj).2.2.1; omega⟩
  · rcases hA a ha with e | e
    · obtain ⟨a1, h1, h2⟩ := hrow _ e.symm; rw [← h2]; exact h.s12 a1 b h1 hb
    · rw [e]; have := (h.own2.base_le b hb).2; omega
  · obtain ⟨a1, h1, h2⟩ := hrow _ e; rw [← h2]; exact (h.own1.base_le a1 h1).1
/-- Where it was taken is listed. -/
theorem Cst.app2 (h : Cst w wr n x g M j0 l1 l2 m A c A2 c2 G E) (hl : l2 < m) {A' : Option Addr} {c' : Nat} (ho : Own w' w.heap.size 3 A' (l2 + 1) c' (eF E)) (hg : wr.grownBy w' (A2.map (·.block)))
    (hA : ∀ ad, A' = some ad → some ad.block = A2.map (·.block) ∨ ad.block = wr.heap.size) : Cst w w' n x g M j0 l1 (l2 + 1) m A c A' c' G E := by
  have hrow : ∀ b, A2.map (·.block) = some b → ∃ ad, A2 = some ad ∧ ad.block = b := by
    intro b hb; cases A2 with
    | none => cases hb
    | some ad => exact ⟨ad, rfl, by injection hb⟩
  refine ⟨h.own1.kept hg fun ad ha e => ?_, ho, h.le1, by omega, h.dig.of_block (hg.block _ h.dig.lt fun e => ?_), h.hiG, fun j hj hm => (h.digs j hj hm).of_block (hg.block _ (h.digs j hj hm).lt fun e => ?_),
    fun j hj => ⟨(h.low j hj).1, (h.low j hj).2.1, Nat.lt_of_lt_of_le (h.low j hj).2.2.1 hg.size, (h.low j hj).2.2.2⟩, h.inj, h.s1, fun ad ha => ?_, fun a b ha hb => ?_, h.bel.grown hg h.bel.size fun b e => ?_⟩
  · obtain ⟨a1, h1, h2⟩ := hrow _ e.symm; exact h.s12 ad a1 ha h1 h2.symm
  · obtain ⟨a1, h1, h2⟩ := hrow _ e.symm; exact (h.s2 a1 h1).1 h2
  · obtain ⟨a1, h1, h2⟩ := hrow _ e.symm; exact (h.s2 a1 h1).2 j hm h2.symm
  · rcases hA ad ha with e | e
    · obtain ⟨a1, h1, h2⟩ := hrow _ e.symm; rw [← h2]; exact h.s2 a1 h1
    · rw [e]; exact ⟨by have := h.dig.lt; omega, fun j hj => by have := (h.low j hj).2.2.1; omega⟩
  · rcases hA b hb with e | e
    · obtain ⟨a1, h1, h2⟩ := hrow _ e.symm; rw [← h2]; exact h.s12 a a1 ha h1
    · rw [e]; have := (h.own1.base_le a ha).2; omega
  · obtain ⟨a1, h1, h2⟩ := hrow _ e; rw [← h2]; exact (h.own2.base_le a1 h1).1
/-- A block that is newer lies apart. -/
theorem Cst.far (h : Cst w wr n x g M j0 l1 l2 m A c A2 c2 G E) {b : Nat} (hb : wr.heap.size ≤ b) : b ≠ g ∧ (∀ j, j < m → b ≠ G j) ∧ (∀ ad, A = some ad → ad.block ≠ b) ∧ ∀ ad, A2 = some ad → ad.block ≠ b :=
  ⟨by have := h.dig.lt; omega, fun j hj => by have := (h.low j hj).2.2.1; omega, fun ad ha => by have := (h.own1.base_le ad ha).2; omega, fun ad ha => by have := (h.own2.base_le ad ha).2; omega⟩
theorem cat_from (x : Nat → Nat) (M : Nat) : ∀ i, catN M x (fun i => x (M + i)) i = x i := fun i => by
  unfold catN
  by_cases h : i < M
  · rw [if_pos h]
  · rw [if_neg h]
    show x (M + (i - M)) = x i
    rw [show M + (i - M) = i by omega]
theorem cat_p (G : Nat → Nat) (m v : Nat) : ∀ i, i < m + 1 → catF m (pF (upd G m v)) (fun _ => .pointer (some ⟨v, 0, none⟩)) i = pF (upd G m v) i := fun i hi => by
  unfold catF
  by_cases h : i < m
  · rw [if_pos h]
  · obtain rfl : i = m := by omega
    rw [if_neg h]; unfold pF; rw [upd_eq]
theorem cat_e (E : Nat → Nat) (m v : Nat) : ∀ i, i < m + 1 → catF m (eF (upd E m v)) (fun _ => .int .i64 ((v : Nat) : Int)) i = eF (upd E m v) i := fun i hi => by
  unfold catF
  by_cases h : i < m
  · rw [if_pos h]
  · obtain rfl : i = m := by omega
    rw [if_neg h]; unfold eF; rw [upd_eq]
theorem own_row {base : Nat} {e : TypeId} {f : Nat → Value} {k ck : Nat} (h : Own w base e A k ck f) (hk : 0 < k) : ∃ b F, A = some ⟨b, 0, none⟩ ∧ base ≤ b ∧ w.rowIs b e ck F ∧ k ≤ ck ∧ ck ≤ maxLen := by
  rcases h.2 with ⟨_, h0⟩ | ⟨b, cap, cur, hv, hb, hh, hnc, hm, hs, _⟩
  · omega
  · injection hv with h1 h2 h3; subst h1 h3
    rw [Nat.mul_one] at hs
    exact ⟨b, fun i => cur.getD i undef, rfl, hb, ⟨cur, hh, hs, fun i hi => by simp [Array.getD, show i < cur.size by omega]⟩, hnc, hm⟩
theorem own_of_row {base b : Nat} {e : TypeId} {F : Nat → Value} {k ck : Nat} (h : w.rowIs b e ck F) (hb : base ≤ b) (hk : k ≤ ck) (hm : ck ≤ maxLen) : Own w base e (some ⟨b, 0, none⟩) k ck F := by
  obtain ⟨cs, hh, hs, hc⟩ := h
  refine ⟨by simp, .inr ⟨b, ck, cs, rfl, hb, hh, hk, hm, by omega, ?_⟩⟩
  apply List.ext_getElem?
  intro i
  by_cases hi : i < k
  · have := hc i (by omega)
    simp [hi, this]
  · simp [List.getElem?_take, hi]
end
end ShaCutsLaw
end Go.Proofs.YtlklomaekimjlaaDoor
