/- A part of what the proofs stand on: ShufClone, ShufRev, ShufPlace, ShufSwap, ShufList, OwnNew. -/
import Derived.Test.YtjhgndnpihnidaaDoorGPic14
import Derived.Test.YtjhgndnpihnidaaDoorGPic15
import Derived.Test.YtjhgndnpihnidaaDoorGPic13
import Derived.Lib.SliceRun
import Derived.Test.YtjhgndnpihnidaaDoorGPic16
import Derived.Test.YtjhgndnpihnidaaDoorGPic12
import Derived.Test.YtjhgndnpihnidaaDoorGPic7
/- slices.Clone of a list of numbers; new slices whose length is a number of 64 bits. -/
namespace Go.Proofs.YtjhgndnpihnidaaDoor
set_option maxRecDepth 40000
open Go.RowKit
section
variable {P : Program}
theorem wpList_makeLU {ops : Array Oper} {rest : List Oper} {o : Oper} {a : Act} {w w0 : World} {Q : Exit → Act → World → Prop} {rows : List RowSpec} (hgd : o.guard = none) (t : TypeId) {e : TypeId} {z : Value} {k bytes : Nat} (ht : P.underlying t = some (.slice e)) (hinfo : (P.info? e).map (fun i => (i.zero, i.size, i.bytes)) = some (some z, k, bytes))
    (x y : Operand) (ho : o.op = .makeSlice t x y) (n : Nat) (hx : a.eval x = .int .u64 (n : Int)) (hy : a.eval y = .int .u64 (n : Int)) (f : Nat → Value) (hf : ∀ i, i < n * k → (madeCells z.cells (n * k))[i]? = some (f i)) (hbytes : bytes * n ≤ 281474976710656) (h63 : n ≤ 9223372036854775807) (h : HS w0 w rows)
    (hK : ∀ b w', w0.heap.size ≤ b → w.heap.size ≤ b → HS w0 w' (⟨b, e, n * k, f⟩ :: rows) → wpList P ops Q rest (a.put o.dst (.slice (some ⟨b, 0, none⟩) n n)) w') : wpList P ops Q (o :: rest) a w :=
  wpList_plain hgd fun _ hK' => by
    obtain ⟨i, hi, hz, hsize, hby⟩ := infoZ hinfo
    have hr := run_make (P := P) w t e i z ht hi hz .u64 .u64 (n : Int) (n : Int) (by omega) (Int.le_refl _) (by rw [hby, ← Int.natCast_mul]; omega) (by omega)
    simp only [Int.toNat_natCast, hsize] at hr
    have hrun : (execOp a.eval o).run P w = .ok (.value (.slice (some ⟨w.heap.size, 0, none⟩) n n)) (w.alloc (.cells (madeCells z.cells (n * k)) e)) := by
      unfold execOp
      rw [ho]
      simp only [hx, hy]
      simp [hr]
    unfold Oper.wp
    rw [hrun]
    exact hK' _ _ (hK _ _ h.size (Nat.le_refl _) (h.alloc _ e (n * k) f (size_madeCells _ _) hf))
end
/-- Numbers as a value. -/
abbrev u64v (f : Nat → Nat) : Nat → Value := fun i => .int .u64 ((f i : Nat) : Int)
theorem run_bs0_64 (w : World) : (Instr.buildSlice 37 0 #[]).run Tryd.prog w = .ok (.slice (some ⟨w.heap.size, 0, none⟩) 0 0) (w.alloc (.cells #[] 22)) := by simp [go_sem]
theorem eqNil64 (w : World) (A : Option Addr) (n c : Nat) : (binOp .eql 37 (.slice A n c) (.slice none 0 0)).run Tryd.prog w = .ok (.bool A.isNone) w :=
  Lib.run_eql_slice_nil w _ _ A n c 0 0 Tryd.underlying37
theorem ex_eqN {o : Oper} {a : Act} {ty rt : TypeId} {x : Operand} {u : Value} {b : Bool} {w : World} (ho : o.op = .binOp .eql ty x (.const (.slice none 0 0)) rt) (hx : a.eval x = u) (hr : (binOp .eql ty u (.slice none 0 0)).run Tryd.prog w = .ok (.bool b) w) : (execOp a.eval o).run Tryd.prog w = .ok (.value (.bool b)) w := by
  unfold execOp
  rw [ho]
  have h2 : a.eval (.const (.slice none 0 0)) = .slice none 0 0 := rfl
  simp only [hx, h2]
  simp [eqGuard, hr]
set_option maxHeartbeats 2000000 in
theorem clone_any (n c : Nat) (A : Option Addr) (x : Nat → Nat) (w : World) (hb : Rd w w.heap.size A n (u64v x)) (hn : n ≤ 17592186044416) (hA : A = none → c = 0) :
    Calls Tryd.prog 66 #[.slice A n c] w fun e w' => ∃ A' c', e = .returned (.slice A' n c') ∧ OwnZ w' w.heap.size 22 1 A' n c' (u64v x) ∧ Below w.heap.size w w' := by
  have HX := Lib.hid hb
  have HS0 := Lib.hid (HS.nil w)
  cases A with
  | none =>
    obtain rfl : n = 0 := by
      rcases Nat.eq_zero_or_pos n with h | h
      · exact h
      · obtain ⟨ad, h1, _⟩ := hb h; cases h1
    obtain rfl := hA rfl
    go_enter Tryd.func66, Tryd.ntmps66
    go_wp2_with (refine wpList_as rfl 4 rfl (.bool true) ?_ ?_; (· exact ex_eqN rfl rfl (eqNil64 w none 0 0)))
    go_ret
    exact ⟨none, 0, rfl, OwnZ.nil _ _ _ _ _, Below.refl _ _⟩
  | some ad =>
    clear hb hA
    go_enter Tryd.func66, Tryd.ntmps66
    go_wp2_with (first
      | (refine wpList_as rfl 4 rfl (.bool false) ?_ ?_; (· exact ex_eqN rfl rfl (eqNil64 w (some ad) n c)))
      | (refine wpList_bs0L rfl 1 rfl run_bs0_64 HS0.out ?_; intro b5 w2 hb5 hs ho; have HS2 := Lib.hid hs; have HO2 := Lib.hid ho; clear hs ho)
      | (at_builtin; refine wpList_app0L rfl (.tmp 5) (.tmp 6) 37 w.heap.size (z := .int .u64 0) (k := 1) (bytes := 8) (by kernel_rfl) Tryd.underlying37 (by rfl) (by omega) rfl rfl HO2.out rfl (by rw [Nat.mul_one]; exact HX.out.below HS2.out.bel) (fun _ _ => rfl) ⟨by omega, by omega⟩ HS2.out.size HS2.out ?_; intro A7 c7 w3 ho hs; have HO3 := Lib.hid ho; have HS3 := Lib.hid hs; clear ho hs))
    go_ret
    exact ⟨A7, c7, rfl, HO3.out, HS3.out.bel⟩
end Go.Proofs.YtjhgndnpihnidaaDoor
/- slices.Reverse of a list of rounds. (Printed by a program of mine.) -/
namespace Go.Proofs.YtjhgndnpihnidaaDoor
set_option maxRecDepth 40000
open Go.RowKit
theorem ord_both {P : Program} {ops : Array Oper} {Q : Exit → Act → World → Prop} {md : Region.Mode} {i j fuel : Nat} {o o' : Oper} {listed : Array Bool} {a : Act} {w : World} (hi : ops.toList[i]? = some o) (hj : ops.toList[j]? = some o') (hr : Region.ready md ops listed = [i, j]) (hg : o.guard = none) (hg' : o'.guard = none)
    (h : ∀ K : Act → World → Prop, (∀ a w, wpAny P md ops Q fuel (listed.setIfInBounds i true) a w → K a w) → o.wp P a w K Q)
    (h' : ∀ K : Act → World → Prop, (∀ a w, wpAny P md ops Q fuel (listed.setIfInBounds j true) a w → K a w) → o'.wp P a w K Q) : wpAny P md ops Q (fuel + 1) listed a w :=
  wpAny_ready (rs := [i, j]) hr (by simp) (AllReady.cons (by rw [← Array.getElem?_toList]; exact hi) (fun K hK => by rw [if_pos (by simp [Region.wanted, hg])]; exact h K hK) (AllReady.cons (by rw [← Array.getElem?_toList]; exact hj) (fun K hK => by rw [if_pos (by simp [Region.wanted, hg'])]; exact h' K hK) AllReady.nil))
theorem wp_exv {P : Program} {o : Oper} {a : Act} {w : World} {K : Act → World → Prop} {Q : Exit → Act → World → Prop} (v : Value) (h : (execOp a.eval o).run P w = .ok (.value v) w) (hK : K (a.put o.dst v) w) : o.wp P a w K Q := by
  unfold Oper.wp
  rw [h]
  exact hK
theorem ex_ldPart {P : Program} {w : World} {o : Oper} {a : Act} {ty : TypeId} {x : Operand} {g off n : Nat} {f : Nat → Value} {d : TypeDesc} (ho : o.op = .load ty x) (hx : a.eval x = .pointer (some ⟨g, off, none⟩)) (hu : P.underlying ty = some d) (hd : (match d with | .struct _ | .array _ _ => true | _ => false) = true) (hi : (P.info? ty).map (·.size) = some n) (h : ∀ i, i < n → w.cell? ⟨g, off + i, none⟩ = some (f i)) : (execOp a.eval o).run P w = .ok (.value (.agg (arr n f))) w := by
  unfold execOp
  rw [ho]
  simp only [hx]
  simp [run_loadAt_part w g off n ty d f h hu hd hi]
namespace ShufRev
open ShufRounds
/-- Round numbers where k pairs are swapped. -/
def revN (k : Nat) : Nat → Nat := fun j => if j < k ∨ 6 - k ≤ j then 5 - j else j
theorem rev_step {s : Nat → Nat} {n k j : Nat} {D : Nat → Nat} {F : Nat → Value} (hk : k < 3) (hj : j = 5 - k) (h : ∀ q, q < 12 → F q = lstF s n (revN k) D q) : ∀ q, q < 12 → (fun q => if j * 2 ≤ q ∧ q < j * 2 + 2 then F (k * 2 + (q - j * 2)) else (fun q => if k * 2 ≤ q ∧ q < k * 2 + 2 then F (j * 2 + (q - k * 2)) else F q) q) q = lstF s n (revN (k + 1)) D q := fun q hq => by
  show (if j * 2 ≤ q ∧ q < j * 2 + 2 then F (k * 2 + (q - j * 2)) else (if k * 2 ≤ q ∧ q < k * 2 + 2 then F (j * 2 + (q - k * 2)) else F q)) = _
  by_cases h1 : j * 2 ≤ q ∧ q < j * 2 + 2
  · rw [if_pos h1, h _ (by omega)]
    unfold lstF
    rw [show (k * 2 + (q - j * 2)) / 2 = k by omega, show (k * 2 + (q - j * 2)) % 2 = q % 2 by omega, show revN k k = revN (k + 1) (q / 2) by unfold revN; rw [if_neg (by omega), if_pos (by omega)]; omega]
  · rw [if_neg h1]
    by_cases h2 : k * 2 ≤ q ∧ q < k * 2 + 2
    · rw [if_pos h2, h _ (by omega)]
      unfold lstF
      rw [show (j * 2 + (q - k * 2)) / 2 = j by omega, show (j * 2 + (q - k * 2)) % 2 = q % 2 by omega, show revN k j = revN (k + 1) (q / 2) by unfold revN; rw [if_neg (by omega), if_pos (by omega)]; omega]
    · rw [if_neg h2, h _ hq]
      unfold lstF
      rw [show revN k (q / 2) = revN (k + 1) (q / 2) by
        unfold revN
        by_cases h3 : q / 2 < k ∨ 6 - k ≤ q / 2
        · rw [if_pos h3, if_pos (by omega)]
        · rw [if_neg h3, if_neg (by omega)]]
end ShufRev
end Go.Proofs.YtjhgndnpihnidaaDoor
/- Place and Back, by the program. -/
namespace Go.Proofs.YtjhgndnpihnidaaDoor
set_option maxRecDepth 40000
open Go.RowKit
/-- What Place and Back say of a place that isn't one. -/
abbrev noPlace : Ending := .returned (.tuple #[.int .u64 0, .int .i64 1])
end Go.Proofs.YtjhgndnpihnidaaDoor
/- A round done to a whole list: pairs are swapped. -/
namespace Go.Proofs.YtjhgndnpihnidaaDoor
set_option maxRecDepth 40000
/-- Where a place is taken by the last k rounds, the first of them first. -/
def lastN (s : Nat → Nat) (n : Nat) : Nat → Nat → Nat
  | 0, i => i
  | k + 1, i => lastN s n k (stepN s n (5 - k) i)
theorem last_place (s : Nat → Nat) (n i : Nat) : lastN s n 6 i = placeN s n i := rfl
theorem last_lt {s : Nat → Nat} {n : Nat} : ∀ (k i : Nat), i < n → lastN s n k i < n := by
  intro k
  induction k with
  | zero => intro i hi; exact hi
  | succ k ih => intro i hi; exact ih _ (step_lt hi)
/-- The list when the pairs whose lower place is below i are done. -/
def swF (s : Nat → Nat) (n v r i : Nat) (G : Nat → Nat) : Nat → Nat := fun q => if min q (flipN v n q) < i then G (stepV s n v r q) else G q
theorem sw_zero (s : Nat → Nat) (n v r : Nat) (G : Nat → Nat) : swF s n v r 0 G = G := by
  funext q
  unfold swF
  rw [if_neg (by omega)]
theorem sw_end {s : Nat → Nat} {n v r q : Nat} {G : Nat → Nat} (hq : q < n) : swF s n v r n G q = G (stepV s n v r q) := by
  unfold swF
  rw [if_pos (by omega)]
theorem sw_skip {s : Nat → Nat} {n v r i q : Nat} {G : Nat → Nat} (hv : v < n) (hq : q < n) (h : ¬ (i < flipN v n i ∧ turnN s r i (flipN v n i) = true)) : swF s n v r (i + 1) G q = swF s n v r i G q := by
  unfold swF
  by_cases h1 : min q (flipN v n q) < i
  · rw [if_pos h1, if_pos (by omega)]
  · rw [if_neg h1]
    by_cases h2 : min q (flipN v n q) < i + 1
    · rw [if_pos h2]
      have h3 : min q (flipN v n q) = i := by omega
      by_cases hqi : q = i
      · subst hqi
        unfold stepV
        by_cases ht : turnN s r q (flipN v n q) = true
        · rw [if_pos ht]
          have : ¬ q < flipN v n q := fun hlt => h ⟨hlt, ht⟩
          rw [show flipN v n q = q by omega]
        · rw [if_neg ht]
      · have hf : flipN v n q = i := by omega
        have hfi : flipN v n i = q := by rw [← hf]; exact flip_flip hv hq
        unfold stepV
        rw [hf, turn_comm]
        rw [hfi] at h
        have ht : ¬ turnN s r i q = true := fun ht => h ⟨by omega, ht⟩
        rw [if_neg ht]
    · rw [if_neg h2]
theorem sw_swap {s : Nat → Nat} {n v r i q f : Nat} {G : Nat → Nat} (hv : v < n) (hi : i < n) (hq : q < n) (hf : f = flipN v n i) (h : i < f) (ht : turnN s r i f = true) : swF s n v r (i + 1) G q = if q = f then swF s n v r i G i else if q = i then swF s n v r i G f else swF s n v r i G q := by
  have hfi : flipN v n f = i := by rw [hf]; exact flip_flip hv hi
  unfold swF
  by_cases h1 : q = f
  · subst h1
    rw [if_pos rfl, hfi, if_pos (by omega), ← hf, if_neg (by omega)]
    unfold stepV
    rw [hfi, turn_comm, if_pos ht]
  · rw [if_neg h1]
    by_cases h2 : q = i
    · subst h2
      rw [if_pos rfl, ← hf, if_pos (by omega), hfi, if_neg (by omega)]
      unfold stepV
      rw [← hf, if_pos ht]
    · rw [if_neg h2]
      by_cases h3 : min q (flipN v n q) < i
      · rw [if_pos h3, if_pos (by omega)]
      · rw [if_neg h3, if_neg]
        intro h4
        have h5 : flipN v n q = i := by omega
        have : flipN v n i = q := by rw [← h5]; exact flip_flip hv hq
        omega
/-- A round's pass over the list takes what k rounds left to what k + 1 rounds leave. -/
theorem sw_last {s : Nat → Nat} {n k q : Nat} {x : Nat → Nat} (hq : q < n) : swF s n (pivN s n (5 - k)) (5 - k) n (fun i => x (lastN s n k i)) q = x (lastN s n (k + 1) q) := by
  rw [sw_end hq]
  rfl
end Go.Proofs.YtjhgndnpihnidaaDoor
/- shuf.List. (Printed by a program of mine.) -/
namespace Go.Proofs.YtjhgndnpihnidaaDoor
set_option maxRecDepth 40000
open Go.RowKit
namespace ShufList
open ShufRounds
theorem Rnds.other {base : Nat} {w w' : World} {s : Nat → Nat} {n k : Nat} {ρ : Nat → Nat} {A : Option Addr} {c : Nat} {D : Nat → Nat} (h : Rnds base w s n k ρ A c D) {g : Nat} (hg : w.grownBy w' (some g)) (hb : g < base) : Rnds base w' s n k ρ A c D :=
  ⟨h.own.kept hg (fun ad e er => by injection er with er; have := (h.own.base_le ad e).1; omega), fun r hr => ⟨(h.dig r hr).1.of_block (hg.block _ (h.dig r hr).1.lt (fun e => by injection e with e; have := (h.dig r hr).2; omega)), (h.dig r hr).2⟩⟩
theorem wp_scope_l {P : Program} {a : Act} {w : World} {Q : Exit → Act → World → Prop} {c R : Code} (l : Nat) (J : Act → World → Prop) (μ : Act → World → Nat) (hf : findLabel c l = some (.seq .skip R))
    (pass : ∀ a w, J a w → R.wp P (Exit.jump l (fun a' w' => J a' w' ∧ μ a' w' < μ a w) Q) a w)
    (first : (∀ a w, J a w → R.wp P (Exit.jump l J Q) a w) → c.wp P (Exit.jump l J Q) a w) : (Code.scope c).wp P Q a w := by
  refine wp_scope_jumps l J μ hf (first fun a w h => wp_mono (pass a w h) ?_) fun a w h => wp_seq (wp_skip (pass a w h))
  intro e a' w' he
  cases e with
  | goto l' => exact ⟨he.1, he.2.1⟩
  | _ => exact he
theorem cvIU (m : Nat) (hm : m < 9223372036854775808) (w : World) : (convert 3 22 (.int .i64 (m:Int))).run Tryd.prog w = .ok (.int .u64 (m:Int)) w := by
  simp [go_sem, IntKind.wrap, IntKind.bits, IntKind.signed]; omega
/-- The blocks of a round, of which t are reckoned. -/
def bpt (s : Nat → Nat) (j t : Nat) : Nat → Nat := fun i => if i < t * 32 then blkN s j (i / 32) (i % 32) else 0
theorem bp_step {s : Nat → Nat} {j t N : Nat} : ∀ q, q < N → (if t * 32 ≤ q ∧ q < t * 32 + 32 then u8v (blkN s j t) (q - t * 32) else u8v (bpt s j t) q) = u8v (bpt s j (t + 1)) q := fun q _ => by
  unfold bpt
  by_cases h : t * 32 ≤ q ∧ q < t * 32 + 32
  · rw [if_pos h]
    simp only [u8v]
    rw [if_pos (by omega), show q / 32 = t by omega, show q % 32 = q - t * 32 by omega]
  · rw [if_neg h]
    simp only [u8v]
    by_cases h1 : q < t * 32
    · rw [if_pos h1, if_pos (by omega)]
    · rw [if_neg h1, if_neg (by omega)]
theorem bp_at {s : Nat → Nat} {j nb q p : Nat} (hq : q < nb) (hp : p < 32) : u8v (bpt s j nb) (q * 32 + p) = u8v (blkN s j q) p := by
  unfold bpt
  simp only [u8v]
  rw [if_pos (by omega), show (q * 32 + p) / 32 = q by omega, show (q * 32 + p) % 32 = p by omega]
theorem sw_cell {s : Nat → Nat} {n v j i q f : Nat} {G : Nat → Nat} {F' : Nat → Value} (hv : v < n) (hi : i < n) (hq : q < n) (hfn : f < n) (hf : f = flipN v n i) (h : i < f) (ht : turnN s j i f = true) (hF : ∀ q, q < n → F' q = .int .u64 ((swF s n v j i G q : Nat) : Int)) : (if q = f then F' i else if q = i then F' f else F' q) = .int .u64 ((swF s n v j (i + 1) G q : Nat) : Int) := by
  rw [sw_swap hv hi hq hf h ht]
  by_cases h1 : q = f
  · rw [if_pos h1, if_pos h1]; exact hF i hi
  · rw [if_neg h1, if_neg h1]
    by_cases h2 : q = i
    · rw [if_pos h2, if_pos h2]; exact hF f hfn
    · rw [if_neg h2, if_neg h2]; exact hF q hq
theorem run_idxZU {P : Program} (w : World) {t e : TypeId} {z n c k : Nat} (hu : P.underlying t = some (.slice e)) (hz : (P.info? e).map (·.size) = some z) (ad : Addr) (hk : k < n) : (Instr.indexAt t (.slice (some ad) n c) (.int .u64 (k : Int))).run P w = .ok (.pointer (some (ad.add (k * z)))) w := by
  have h1 : ¬ n ≤ k := by omega
  simp [Instr.indexAt, run_underlying hu, sizeOf_run hz, go_sem, h1]
theorem st64 (a : Addr) (v : Value) (u : Value) (m : Int) (hv : v = .int .u64 m) (w : World) (h : w.cell? a = some u) (hf : w.frozen? a = false) : (Instr.storeAt 22 (.pointer (some a)) v).run Tryd.prog w = .ok () (w.setCell a v) := by
  subst hv
  simp [go_sem, h, hf]
theorem wp_st64 {o : Oper} {a : Act} {w w0 : World} {K : Act → World → Prop} {Q : Exit → Act → World → Prop} {rows : List RowSpec} (x y : Operand) (ho : o.op = .store 22 x y) (h : HS w0 w rows) (k : Nat) {b : Nat} {t : TypeId} {n : Nat} {f : Nat → Value} (hk : rows[k]? = some ⟨b, t, n, f⟩) (off : Nat) (v : Value) (m : Int) (hv : v = .int .u64 m) (hx : a.eval x = .pointer (some ⟨b, off, none⟩)) (hy : a.eval y = v) (hfit : off < n)
    (hK : ∀ w', HS w0 w' (rows.set k ⟨b, t, n, fun j => if j = off then v else f j⟩) → K (a.put o.dst undef) w') : o.wp Tryd.prog a w K Q := by
  have hrun := st64 ⟨b, off, none⟩ v _ m hv w (h.cell k off hk hfit) (h.frozen k off hk)
  unfold Oper.wp execOp
  simp only [ho, hx, hy, Sem.run_bind, hrun, Result.andThen_ok, Sem.run_pure]
  exact hK _ (h.set k off hk v)
/-- At the label: j + 1 rounds are left. -/
def J (w : World) (A : Option Addr) (c n : Nat) (x s : Nat → Nat) (a : Act) (wr : World) : Prop := ∃ (j b3 g6 c6 g8 c8 base : Nat) (D : Nat → Nat) (F : Nat → Value) (u2 u10 u11 u12 u13 u14 u15 u16 u17 u18 u19 u20 u21 u22 u23 u24 u25 u26 u27 u28 u29 u30 u31 u32 u33 u34 u35 u36 u37 u38 u39 u40 u41 u42 u43 u44 u45 u46 u47 u48 u49 u50 u51 u52 u53 u54 u55 u56 u57 u58 u59 u60 u61 u62 u63 u64 u65 u66 u67 u68 u69 u70 u71 u72 u73 u74 u75 u76 u77 u78 u79 u80 u81 u82 u83 u84 u85 u86 u87 u88 u89 u90 : Value),
  a = ⟨#[.slice A n c, rootV s, u2, .pointer (some ⟨b3, 0, none⟩), .slice none 0 0, .int .i64 0, .slice (some ⟨g6, 0, none⟩) n c6, .int .u64 (n : Int), .slice (some ⟨g8, 0, none⟩) 6 c8, .int .i64 ((j : Int) + 1), u10, u11, u12, u13, u14, u15, u16, u17, u18, u19, u20, u21, u22, u23, u24, u25, u26, u27, u28, u29, u30, u31, u32, u33, u34, u35, u36, u37, u38, u39, u40, u41, u42, u43, u44, u45, u46, u47, u48, u49, u50, u51, u52, u53, u54, u55, u56, u57, u58, u59, u60, u61, u62, u63, u64, u65, u66, u67, u68, u69, u70, u71, u72, u73, u74, u75, u76, u77, u78, u79, u80, u81, u82, u83, u84, u85, u86, u87, u88, u89, u90], []⟩ ∧ j ≤ 5 ∧ HS w wr [⟨g6, 22, c6 * 1, F⟩, ⟨b3, 24, 32, u8v s⟩] ∧ (∀ q, q < n → F q = .int .u64 ((x (lastN s n (5 - j) q) : Nat) : Int)) ∧ Rnds base wr s n 6 fwd (some ⟨g8, 0, none⟩) c8 D ∧ w.heap.size ≤ b3 ∧ b3 < g6 ∧ g6 < base ∧ base ≤ wr.heap.size ∧ n ≤ c6 ∧ c6 ≤ maxLen
end ShufList
open ShufList ShufRounds in
set_option maxHeartbeats 4000000 in
theorem list_long (n c : Nat) (A : Option Addr) (s : Nat → Nat) (w : World) (hn : 65536 < n) :
    Calls Tryd.prog 70 #[.slice A n c, rootV s] w fun e w' => e = .returned (.tuple #[.slice none 0 0, .int .i64 1]) ∧ Below w.heap.size w w' := by
  have HS0 := Lib.hid (HS.nil w)
  have t1 : decide ((65536 : Int) < (n : Int)) = true := decide_eq_true (by omega)
  go_enter Tryd.func70, Tryd.ntmps70
  go_wp2_with (refine wpList_boxL rfl 24 _ 3 rfl rfl HS0.out 32 (u8v s) rfl ?_; intro b3 w3 hb3 hc3 hs; have HS3 := Lib.hid hs; clear hs)
  refine wp_scope_l 0 (fun _ _ => False) (fun _ _ => 0) rfl (fun _ _ h => h.elim) fun _ => ?_
  go_wp2_with fail
  simp only [Exit.jump]
  go_ret2
  exact ⟨rfl, HS3.out.out (by simp; omega)⟩
open ShufList ShufRounds in
set_option maxRecDepth 100000 in
set_option maxHeartbeats 16000000 in
theorem list_ok (n c : Nat) (A : Option Addr) (x s : Nat → Nat) (hs : ∀ i, s i < 256) (w : World) (hb : Rd w w.heap.size A n (u64v x)) (hn : n ≤ 65536) (hA0 : A = none → c = 0) (hp : ShaPkg w) :
    Calls Tryd.prog 70 #[.slice A n c, rootV s] w fun e w' => ∃ A' c', e = .returned (.tuple #[.slice A' n c', .int .i64 0]) ∧ OwnZ w' w.heap.size 22 1 A' n c' (u64v fun q => x (placeN s n q)) ∧ Below w.heap.size w w' := by
  have HS0 := Lib.hid (HS.nil w)
  have HX := Lib.hid hb
  have HP := Lib.hid hp
  have HSl := Lib.hid hs
  have HA0 := Lib.hid hA0
  have t1 : decide ((65536 : Int) < (n : Int)) = false := decide_eq_false (by omega)
  clear hb hp hs hA0
  by_cases hn0 : n = 0
  · subst hn0
    go_enter Tryd.func70, Tryd.ntmps70
    go_wp2_with (refine wpList_boxL rfl 24 _ 3 rfl rfl HS0.out 32 (u8v s) rfl ?_; intro b3 w3 hb3 hc3 hs; have HS3 := Lib.hid hs; clear hs)
    refine wp_scope_l 0 (fun _ _ => False) (fun _ _ => 0) rfl (fun _ _ h => h.elim) fun _ => ?_
    go_wp2_with (go_at_call 66; refine (clone_any 0 c A x _ ((HX.out.below (HS3.out.out (by simp; omega))).more HS3.out.size) (by omega) HA0.out).mono ?_; rintro e w6 ⟨A6, c6, rfl, ho, hb⟩; have HO6 := Lib.hid ho; have HS6 := Lib.hid (HS3.out.below hb); have hb3w : b3 < w3.heap.size := HS3.out.lt 0 rfl; have h36 := hb.size; clear ho hb)
    simp only [Exit.jump]
    go_ret2
    exact ⟨A6, c6, rfl, (HO6.out.mono HS3.out.size).congr (fun i hi => by omega), HS6.out.out (by simp; omega)⟩
  · have t2 : ((n : Int) == 0) = false := by rw [beq_eq_false_iff_ne]; omega
    go_enter Tryd.func70, Tryd.ntmps70
    go_wp2_with (refine wpList_boxL rfl 24 _ 3 rfl rfl HS0.out 32 (u8v s) rfl ?_; intro b3 w3 hb3 hc3 hs; have HS3 := Lib.hid hs; clear hs)
    refine wp_scope_l 0 (J w A c n x s) (fun a _ => (intOf (a.tmps.getD 9 undef)).toNat) rfl ?_ ?_
    · rintro a wp0 ⟨j, b3, g6, c6, g8, c8, base, D, F, u2, u10, u11, u12, u13, u14, u15, u16, u17, u18, u19, u20, u21, u22, u23, u24, u25, u26, u27, u28, u29, u30, u31, u32, u33, u34, u35, u36, u37, u38, u39, u40, u41, u42, u43, u44, u45, u46, u47, u48, u49, u50, u51, u52, u53, u54, u55, u56, u57, u58, u59, u60, u61, u62, u63, u64, u65, u66, u67, u68, u69, u70, u71, u72, u73, u74, u75, u76, u77, u78, u79, u80, u81, u82, u83, u84, u85, u86, u87, u88, u89, u90, rfl, hj, hs, hF, hrn, hb3, h36, h6b, hbw, hnc, hcm⟩
      clear HS3 HS0 HA0 HX
      have HRn := Lib.hid hrn
      have HSp := Lib.hid hs
      have HF := Lib.hid hF
      have HWp := Lib.hid (hs.out (by simp; omega))
      have HPp := Lib.hid (HP.out.below (hs.out (by simp; omega)))
      obtain ⟨v, hv⟩ : ∃ v, v = pivN s n j := ⟨_, rfl⟩
      obtain ⟨d, hd⟩ : ∃ d, d = D j := ⟨_, rfl⟩
      have hvn : v < n := by rw [hv]; exact pivN_lt s _ (by omega)
      have HDd := Lib.hid (show Dig wp0 d (preN s j) 33 by rw [hd]; exact (hrn.dig j (by omega)).1)
      have hdb : base ≤ d := by rw [hd]; exact (hrn.dig j (by omega)).2
      have hdl : d < wp0.heap.size := HDd.out.lt
      have HC := Lib.hid (show ∀ q, q < 2 → wp0.cell? ⟨g8, j * 2 + q, none⟩ = some (rndF v d q) from fun q hq => by
        have h := hrn.own.rd.cells (show j * 2 + q < 6 * 2 by omega)
        rw [add_lit0] at h
        rw [h]
        unfold lstF fwd
        rw [show (j * 2 + q) / 2 = j by omega, show (j * 2 + q) % 2 = q by omega, ← hv, ← hd])
      have HV := Lib.hid hv
      obtain ⟨nb, hnb⟩ : ∃ nb, (n + 255) / 256 = nb := ⟨_, rfl⟩
      have hnb1 : nb ≤ 256 ∧ n ≤ nb * 256 := by omega
      have HNB := Lib.hid hnb
      have HN := Lib.hid (HS.nil wp0)
      clear hs hF hrn hv hd hnb
      go_wp2_with (first
        | (refine wpList_as rfl 35 rfl (.pointer (some ⟨g8, j * 2, none⟩)) ?_ ?_; (· exact ex_idx rfl rfl rfl (fun w => (run_idxZ (z := 2) w Tryd.underlying137 (by kernel_rfl) ⟨g8, 0, none⟩ (by omega)).trans (by rw [add_lit0])) _))
        | (refine wpList_load_part rfl 140 (.tmp 35) rfl g8 (j * 2) 2 (rndF v d) rfl _ HC.out Tryd.underlying140 rfl (by kernel_rfl) _ rfl ?_)
        | (refine wpList_allocL rfl 140 10 rfl rfl HN.out #[.int .u64 0, .pointer none] (by kernel_rfl) 2 ShufWalk.zR (by rfl) ShufWalk.zR_at ?_; intro b10 w1 hb10 hc10 hs; have HS1 := Lib.hid hs; clear hs)
        | (refine wpList_storeH rfl 140 (.tmp 10) (.tmp 36) rfl HS1.out 0 rfl (rndF v d) rfl rfl (by kernel_rfl) (fun i _ => rnd_one _ _ i) ?_; intro w2 hs; have HS2 := Lib.hid hs; clear hs)
        | (refine wpList_as rfl 38 rfl (.int .u64 ((n + 255 : Nat) : Int)) ?_ ?_; (· exact ex_bin rfl rfl rfl rfl (fun w => ShufFn.addU n 255 w (by omega)) _))
        | (refine wpList_as rfl 39 rfl (.int .u64 (nb : Int)) ?_ ?_; (· exact ex_bin rfl rfl rfl rfl (fun w => ShufWalk.shr8 (n + 255) nb HNB.out w) _))
        | (refine wpList_makeLU rfl 32 (e := 24) (z := .agg (Array.replicate 32 (.int .u8 0))) (k := 32) (bytes := 32) Tryd.underlying32 (by kernel_rfl) (.tmp 39) (.tmp 39) rfl nb rfl rfl (u8v (bpt s j 0)) (fun i hi => (made_u8 32 _ (by omega) i hi).trans (congrArg some (by simp [u8v, bpt]))) (by omega) (by omega) HS2.out ?_; intro bb w4 hbb hcb hs; have HS4 := Lib.hid hs; clear hs))
      go_loopw [43] (fun o43 wr => ∃ t : Nat, o43 = .int .i64 (t : Int) ∧ t ≤ nb ∧ HS wp0 wr [⟨bb, 24, nb * 32, u8v (bpt s j t)⟩, ⟨b10, 140, 2, rndF v d⟩]) (fun o _ => nb - (intOf o).toNat)
      case atStart => exact ⟨0, rfl, by omega, HS4.out⟩
      case round =>
        clear HS4 HS2 HS1 HN
        obtain ⟨t, rfl, ht, hs⟩ := hrel
        have HSr := Lib.hid hs
        clear hs
        by_cases htn : t < nb
        · go_wp2_with (first
            | (refine wpList_load_rd rfl 140 _ rfl 2 _ Tryd.underlying140 rfl (by kernel_rfl) ⟨b10, 0, none⟩ rfl (rndF v d) (fun i hi => by rw [add_lit0]; exact HSr.out.cell 1 i rfl hi) ?_)
            | (refine wpList_as rfl 50 rfl (.int .u64 (t : Int)) ?_ ?_; (· exact ex_cnv rfl rfl (fun w => cvIU t (by omega) w) _))
            | (go_at_call 82; refine (block_look s HSl.out v d j t (by omega) _ (HDd.out.below (HSr.out.out (by simp; omega)) hdl) (HPp.out.below (HSr.out.out (by simp; omega)))).mono ?_; rintro e w5 ⟨rfl, hb⟩; have HS5 := Lib.hid (HSr.out.below hb); clear hb)
            | (refine wpList_as rfl 52 rfl (.pointer (some ⟨bb, t * 32, none⟩)) ?_ ?_; (· exact ex_idx rfl rfl rfl (fun w => (run_idxZ (z := 32) w Tryd.underlying32 (by kernel_rfl) ⟨bb, 0, none⟩ (by omega)).trans (by rw [add_lit0])) _))
            | (refine wpList_storeP rfl 24 (.tmp 52) (.tmp 51) rfl HS5.out 0 rfl (t * 32) 32 (u8v (blkN s j t)) rfl rfl (by kernel_rfl) (by omega) (fun _ _ => rfl) (u8v (bpt s j (t + 1))) bp_step ?_; intro w6 hs; have HS6 := Lib.hid hs; clear hs))
          go_roundw
          case rel => exact ⟨t + 1, by go_num, by omega, HS6.out⟩
          case measure => simp [intOf]; omega
        · obtain rfl : nb = t := by omega
          obtain ⟨wq, hwq⟩ : ∃ wq, wq = wr := ⟨_, rfl⟩
          rw [← hwq] at HSr ⊢
          clear hwq
          have hq0 := HSr.out.size
          have HBq := Lib.hid (HSr.out.out (by simp; omega))
          have Rb := Lib.hid (HSr.out.row 0 rfl)
          have R10 := Lib.hid (HSr.out.row 1 rfl)
          have HSq := Lib.hid (HSp.out.below HBq.out)
          have HRq := Lib.hid (HRn.out.below HBq.out)
          have hg6q : g6 < wq.heap.size := HSq.out.lt 0 rfl
          have HG := Lib.hid (HS.own (HSq.out.row 0 rfl))
          obtain ⟨G, hG⟩ : ∃ G : Nat → Nat, G = fun q => x (lastN s n (5 - j) q) := ⟨_, rfl⟩
          have HGd := Lib.hid hG
          have HF0 := Lib.hid (show ∀ q, q < n → F q = .int .u64 ((swF s n v j 0 G q : Nat) : Int) by rw [sw_zero, hG]; exact HF.out)
          clear hG HSr HSp HRn HDd HC HF HPp HWp HNB
          go_wp2_with fail
          go_loopw [55] (fun o55 wr => ∃ (i : Nat) (F' : Nat → Value), o55 = .int .u64 (i : Int) ∧ i ≤ n ∧ HS wq wr [⟨g6, 22, c6 * 1, F'⟩] ∧ ∀ q, q < n → F' q = .int .u64 ((swF s n v j i G q : Nat) : Int)) (fun o _ => n - (intOf o).toNat)
          case atStart => exact ⟨0, F, rfl, by omega, HG.out, HF0.out⟩
          case round =>
            clear HG HF0
            obtain ⟨i, F', rfl, hi, hs, hF'⟩ := hrel
            have HSr := Lib.hid hs
            have HF := Lib.hid hF'
            have HGr := Lib.hid (hs.grown g6 (by simp))
            clear hs hF'
            have R10r := Lib.hid (R10.out.of_block (HGr.out.block b10 R10.out.lt (fun e => by injection e; omega)))
            have Rbr := Lib.hid (Rb.out.of_block (HGr.out.block bb Rb.out.lt (fun e => by injection e; omega)))
            by_cases hin : i < n
            · obtain ⟨f, hf⟩ : ∃ f, f = flipN v n i := ⟨_, rfl⟩
              have hfn : f < n := by rw [hf]; exact flip_lt hvn hin
              have HFl := Lib.hid hf.symm
              have HFf := Lib.hid hf
              obtain ⟨q, hq⟩ : ∃ q, f / 256 = q := ⟨_, rfl⟩
              have HQ := Lib.hid hq
              have hqb : q < nb := by omega
              clear hf hq
              by_cases hif : i < f
              · have t5 : decide ((i : Int) < (f : Int)) = true := decide_eq_true (by omega)
                obtain ⟨bt, hbt⟩ : ∃ bt, bt = bitN (blkN s j q) f := ⟨_, rfl⟩
                have HBt := Lib.hid hbt.symm
                have HTn := Lib.hid (show turnN s j i f = bt by unfold turnN; rw [show max i f = f by omega, HQ.out, hbt])
                clear hbt
                cases bt with
                | false =>
                  go_wp2_with (first
                    | (refine wpList_load_rd rfl 140 _ rfl 2 _ Tryd.underlying140 rfl (by kernel_rfl) ⟨b10, 0, none⟩ rfl (rndF v d) (fun i hi => by rw [add_lit0]; exact R10r.out.cell hi) ?_)
                    | (go_at_call 83; refine (flip_look v d n i _ hvn hin (by omega)).mono ?_; rintro e wx ⟨rfl, hb⟩; rw [HFl.out]; have HSx := Lib.hid (HSr.out.below hb); have HBx := Lib.hid hb; clear hb)
                    | (refine wpList_asG rfl rfl rfl 68 rfl (.int .u64 (q : Int)) ?_ ?_; (· exact ex_bin rfl rfl rfl rfl (fun w => ShufWalk.shr8 f q HQ.out w) _))
                    | (refine wpList_asG rfl rfl rfl 69 rfl (.pointer (some ⟨bb, q * 32, none⟩)) ?_ ?_; (· exact ex_idx rfl rfl rfl (fun w => (run_idxZU (z := 32) w Tryd.underlying32 (by kernel_rfl) ⟨bb, 0, none⟩ hqb).trans (by rw [add_lit0])) _))
                    | (go_at_call 84; refine (bit_look ⟨bb, q * 32, none⟩ (blkN s j q) f _ (fun p hp => by rw [add_litO]; exact ((row_below Rbr.out HBx.out Rbr.out.lt).cell (by omega)).trans (congrArg some (bp_at hqb hp))) (blkN_lt s j q) (by omega)).mono ?_; rintro e wy ⟨rfl, hw⟩; rw [hw, HBt.out]; clear hw wy))
                  go_roundw
                  case rel => exact ⟨i + 1, F', by go_num, by omega, HSx.out, fun q hq => by rw [sw_skip hvn hq (by rw [← HFf.out, HTn.out]; simp)]; exact HF.out q hq⟩
                  case measure => simp [intOf]; omega
                | true =>
                  go_upto_region 22 with (first
                    | (refine wpList_load_rd rfl 140 _ rfl 2 _ Tryd.underlying140 rfl (by kernel_rfl) ⟨b10, 0, none⟩ rfl (rndF v d) (fun i hi => by rw [add_lit0]; exact R10r.out.cell hi) ?_)
                    | (go_at_call 83; refine (flip_look v d n i _ hvn hin (by omega)).mono ?_; rintro e wx ⟨rfl, hb⟩; rw [HFl.out]; have HSx := Lib.hid (HSr.out.below hb); have HBx := Lib.hid hb; clear hb)
                    | (refine wpList_asG rfl rfl rfl 68 rfl (.int .u64 (q : Int)) ?_ ?_; (· exact ex_bin rfl rfl rfl rfl (fun w => ShufWalk.shr8 f q HQ.out w) _))
                    | (refine wpList_asG rfl rfl rfl 69 rfl (.pointer (some ⟨bb, q * 32, none⟩)) ?_ ?_; (· exact ex_idx rfl rfl rfl (fun w => (run_idxZU (z := 32) w Tryd.underlying32 (by kernel_rfl) ⟨bb, 0, none⟩ hqb).trans (by rw [add_lit0])) _))
                    | (go_at_call 84; refine (bit_look ⟨bb, q * 32, none⟩ (blkN s j q) f _ (fun p hp => by rw [add_litO]; exact ((row_below Rbr.out HBx.out Rbr.out.lt).cell (by omega)).trans (congrArg some (bp_at hqb hp))) (blkN_lt s j q) (by omega)).mono ?_; rintro e wy ⟨rfl, hw⟩; rw [hw, HBt.out]; clear hw wy))
                  refine ord_enter (n := 16) (by kernel_rfl) (by kernel_rfl) ?_
                  have HSv0 := Lib.hid HSx.out.drew
                  generalize wx.drew = wv at HSv0 ⊢
                  have HSv := Lib.hid HSv0.out
                  clear HSv0 HSx HBx
                  refine ord_take (i := 0) (.slice (some ⟨g6, 0, none⟩) n c6) rfl (by kernel_rfl) (by kernel_rfl) (by kernel_rfl) rfl (fun _ _ _ h => h) (ex_move (.inl rfl) rfl) ?_
                  refine ord_take (i := 1) (.int .u64 (i : Int)) rfl (by kernel_rfl) (by kernel_rfl) (by kernel_rfl) rfl (fun _ _ _ h => h) (ex_move (.inl rfl) rfl) ?_
                  refine ord_take (i := 2) (.slice (some ⟨g6, 0, none⟩) n c6) rfl (by kernel_rfl) (by kernel_rfl) (by kernel_rfl) rfl (fun _ _ _ h => h) (ex_move (.inl rfl) rfl) ?_
                  refine ord_take (i := 3) (.int .u64 (f : Int)) rfl (by kernel_rfl) (by kernel_rfl) (by kernel_rfl) rfl (fun _ _ _ h => h) (ex_move (.inl rfl) rfl) ?_
                  refine ord_take (i := 4) (.slice (some ⟨g6, 0, none⟩) n c6) rfl (by kernel_rfl) (by kernel_rfl) (by kernel_rfl) rfl (fun _ _ _ h => h) (ex_move (.inl rfl) rfl) ?_
                  refine ord_take (i := 5) (.int .u64 (f : Int)) rfl (by kernel_rfl) (by kernel_rfl) (by kernel_rfl) rfl (fun _ _ _ h => h) (ex_move (.inl rfl) rfl) ?_
                  simp only [Act.put, List.setIfInBounds_toArray, List.set_cons_succ, List.set_cons_zero]
                  refine ord_take (i := 6) (.pointer (some ⟨g6, f, none⟩)) rfl (by kernel_rfl) (by kernel_rfl) (by kernel_rfl) rfl (fun _ _ _ h => h) (ex_idx rfl rfl rfl (fun w => (run_idxZU (z := 1) w Tryd.underlying37 (by kernel_rfl) ⟨g6, 0, none⟩ (by omega)).trans (by rw [add_lit0, Nat.mul_one]))) ?_
                  refine ord_take (i := 8) (.slice (some ⟨g6, 0, none⟩) n c6) rfl (by kernel_rfl) (by kernel_rfl) (by kernel_rfl) rfl (fun _ _ _ h => h) (ex_move (.inl rfl) rfl) ?_
                  refine ord_take (i := 9) (.int .u64 (i : Int)) rfl (by kernel_rfl) (by kernel_rfl) (by kernel_rfl) rfl (fun _ _ _ h => h) (ex_move (.inl rfl) rfl) ?_
                  simp only [Act.put, List.setIfInBounds_toArray, List.set_cons_succ, List.set_cons_zero]
                  refine ord_take (i := 10) (.pointer (some ⟨g6, i, none⟩)) rfl (by kernel_rfl) (by kernel_rfl) (by kernel_rfl) rfl (fun _ _ _ h => h) (ex_idx rfl rfl rfl (fun w => (run_idxZU (z := 1) w Tryd.underlying37 (by kernel_rfl) ⟨g6, 0, none⟩ (by omega)).trans (by rw [add_lit0, Nat.mul_one]))) ?_
                  simp only [Act.put, List.setIfInBounds_toArray, List.set_cons_succ, List.set_cons_zero]
                  refine ord_both (i := 7) (j := 11) rfl rfl (by kernel_rfl) rfl rfl (fun K hK => ?_) (fun K hK => ?_)
                  · refine wp_exv (F' f) (ex_ld1 .u64 rfl rfl Tryd.underlying22 (HSv.out.cell 0 f rfl (by omega))) ?_
                    refine hK _ _ ?_
                    clear hK
                    simp only [Act.put, List.setIfInBounds_toArray, List.set_cons_succ, List.set_cons_zero]
                    refine ord_step (i := 11) rfl (by kernel_rfl) rfl (fun K hK => ?_)
                    refine wp_exv (F' i) (ex_ld1 .u64 rfl rfl Tryd.underlying22 (HSv.out.cell 0 i rfl (by omega))) ?_
                    refine hK _ _ ?_
                    clear hK
                    simp only [Act.put, List.setIfInBounds_toArray, List.set_cons_succ, List.set_cons_zero]
                    refine ord_step (i := 12) rfl (by kernel_rfl) rfl (fun K hK => ?_)
                    refine wp_exv (.pointer (some ⟨g6, i, none⟩)) (ex_idx rfl rfl rfl (fun w => (run_idxZU (z := 1) w Tryd.underlying37 (by kernel_rfl) ⟨g6, 0, none⟩ (by omega)).trans (by rw [add_lit0, Nat.mul_one])) _) ?_
                    refine hK _ _ ?_
                    clear hK
                    simp only [Act.put, List.setIfInBounds_toArray, List.set_cons_succ, List.set_cons_zero]
                    refine ord_step (i := 13) rfl (by kernel_rfl) rfl (fun K hK => ?_)
                    refine wp_st64 (.tmp 85) (.tmp 80) rfl HSv.out 0 rfl i (F' f) _ (HF.out f hfn) rfl rfl (by omega) ?_; intro w2 hs; have HS2 := Lib.hid hs; clear hs
                    refine hK _ _ ?_
                    clear hK
                    simp only [Act.put]
                    refine ord_step (i := 14) rfl (by kernel_rfl) rfl (fun K hK => ?_)
                    refine wp_exv (.pointer (some ⟨g6, f, none⟩)) (ex_idx rfl rfl rfl (fun w => (run_idxZU (z := 1) w Tryd.underlying37 (by kernel_rfl) ⟨g6, 0, none⟩ (by omega)).trans (by rw [add_lit0, Nat.mul_one])) _) ?_
                    refine hK _ _ ?_
                    clear hK
                    simp only [Act.put, List.setIfInBounds_toArray, List.set_cons_succ, List.set_cons_zero]
                    refine ord_step (i := 15) rfl (by kernel_rfl) rfl (fun K hK => ?_)
                    refine wp_st64 (.tmp 86) (.tmp 84) rfl HS2.out 0 rfl f (F' i) _ (HF.out i hin) rfl rfl (by omega) ?_; intro w3 hs; have HS3 := Lib.hid hs; clear hs
                    refine hK _ _ ?_
                    clear hK
                    simp only [Act.put]
                    refine wpAny_done (by kernel_rfl) ?_ _
                    go_wp2_with fail
                    go_roundw
                    case rel => exact ⟨i + 1, _, by go_num, by omega, HS3.out, fun q hq => sw_cell hvn hin hq hfn HFf.out hif HTn.out HF.out⟩
                    case measure => simp [intOf]; omega
                  · refine wp_exv (F' i) (ex_ld1 .u64 rfl rfl Tryd.underlying22 (HSv.out.cell 0 i rfl (by omega))) ?_
                    refine hK _ _ ?_
                    clear hK
                    simp only [Act.put, List.setIfInBounds_toArray, List.set_cons_succ, List.set_cons_zero]
                    refine ord_step (i := 7) rfl (by kernel_rfl) rfl (fun K hK => ?_)
                    refine wp_exv (F' f) (ex_ld1 .u64 rfl rfl Tryd.underlying22 (HSv.out.cell 0 f rfl (by omega))) ?_
                    refine hK _ _ ?_
                    clear hK
                    simp only [Act.put, List.setIfInBounds_toArray, List.set_cons_succ, List.set_cons_zero]
                    refine ord_step (i := 12) rfl (by kernel_rfl) rfl (fun K hK => ?_)
                    refine wp_exv (.pointer (some ⟨g6, i, none⟩)) (ex_idx rfl rfl rfl (fun w => (run_idxZU (z := 1) w Tryd.underlying37 (by kernel_rfl) ⟨g6, 0, none⟩ (by omega)).trans (by rw [add_lit0, Nat.mul_one])) _) ?_
                    refine hK _ _ ?_
                    clear hK
                    simp only [Act.put, List.setIfInBounds_toArray, List.set_cons_succ, List.set_cons_zero]
                    refine ord_step (i := 13) rfl (by kernel_rfl) rfl (fun K hK => ?_)
                    refine wp_st64 (.tmp 85) (.tmp 80) rfl HSv.out 0 rfl i (F' f) _ (HF.out f hfn) rfl rfl (by omega) ?_; intro w2 hs; have HS2 := Lib.hid hs; clear hs
                    refine hK _ _ ?_
                    clear hK
                    simp only [Act.put]
                    refine ord_step (i := 14) rfl (by kernel_rfl) rfl (fun K hK => ?_)
                    refine wp_exv (.pointer (some ⟨g6, f, none⟩)) (ex_idx rfl rfl rfl (fun w => (run_idxZU (z := 1) w Tryd.underlying37 (by kernel_rfl) ⟨g6, 0, none⟩ (by omega)).trans (by rw [add_lit0, Nat.mul_one])) _) ?_
                    refine hK _ _ ?_
                    clear hK
                    simp only [Act.put, List.setIfInBounds_toArray, List.set_cons_succ, List.set_cons_zero]
                    refine ord_step (i := 15) rfl (by kernel_rfl) rfl (fun K hK => ?_)
                    refine wp_st64 (.tmp 86) (.tmp 84) rfl HS2.out 0 rfl f (F' i) _ (HF.out i hin) rfl rfl (by omega) ?_; intro w3 hs; have HS3 := Lib.hid hs; clear hs
                    refine hK _ _ ?_
                    clear hK
                    simp only [Act.put]
                    refine wpAny_done (by kernel_rfl) ?_ _
                    go_wp2_with fail
                    go_roundw
                    case rel => exact ⟨i + 1, _, by go_num, by omega, HS3.out, fun q hq => sw_cell hvn hin hq hfn HFf.out hif HTn.out HF.out⟩
                    case measure => simp [intOf]; omega
              · have t5 : decide ((i : Int) < (f : Int)) = false := decide_eq_false (by omega)
                go_wp2_with (first
                    | (refine wpList_load_rd rfl 140 _ rfl 2 _ Tryd.underlying140 rfl (by kernel_rfl) ⟨b10, 0, none⟩ rfl (rndF v d) (fun i hi => by rw [add_lit0]; exact R10r.out.cell hi) ?_)
                    | (go_at_call 83; refine (flip_look v d n i _ hvn hin (by omega)).mono ?_; rintro e wx ⟨rfl, hb⟩; rw [HFl.out]; have HSx := Lib.hid (HSr.out.below hb); have HBx := Lib.hid hb; clear hb))
                go_roundw
                case rel => exact ⟨i + 1, F', by go_num, by omega, HSx.out, fun q hq => by rw [sw_skip hvn hq (by rw [← HFf.out]; exact fun h => hif h.1)]; exact HF.out q hq⟩
                case measure => simp [intOf]; omega
            · obtain rfl : n = i := by omega
              have HFin := Lib.hid (show ∀ q, q < n → F' q = .int .u64 ((x (lastN s n (6 - j) q) : Nat) : Int) from fun q hq => by
                have h := sw_last (s := s) (n := n) (k := 5 - j) (x := x) hq
                rw [show 5 - (5 - j) = j by omega, show 5 - j + 1 = 6 - j by omega] at h
                rw [HF.out q hq, HGd.out, HV.out, h])
              have HSe := Lib.hid (HSq.out.write 0 rfl HGr.out (HSr.out.row 0 rfl))
              have HRe := Lib.hid (Rnds.other HRq.out HGr.out h6b)
              have hse := HGr.out.size
              clear HSq HRq HGr HSr HF R10 Rb R10r Rbr HBq HGd HV
              cases j with
              | zero =>
                have t6 : decide ((0 : Int) < ((0 : Nat) : Int)) = false := by decide
                go_wp2_with fail
                simp only [Exit.jump]
                go_ret2
                exact ⟨some ⟨g6, 0, none⟩, c6, rfl, OwnZ.of_rowC (HSe.out.row 0 rfl) (by omega) hnc hcm (fun q hq => (HFin.out q (by omega)).trans rfl), HSe.out.out (by simp; omega)⟩
              | succ j =>
                have e : (((j + 1 : Nat)) : Int) = (j : Int) + 1 := by omega
                have t6 : decide ((0 : Int) < (j : Int) + 1) = true := decide_eq_true (by omega)
                rw [e]
                clear e
                go_wp2_with fail
                apply wp_goto
                exact ⟨rfl, ⟨j, b3, g6, c6, g8, c8, base, D, F', _, _, _, _, _, _, _, _, _, _, _, _, _, _, _, _, _, _, _, _, _, _, _, _, _, _, _, _, _, _, _, _, _, _, _, _, _, _, _, _, _, _, _, _, _, _, _, _, _, _, _, _, _, _, _, _, _, _, _, _, _, _, _, _, _, _, _, _, _, _, _, _, _, _, _, _, _, _, _, _, _, _, rfl, by omega, HSe.out, fun q hq => by rw [HFin.out q hq, show 6 - (j + 1) = 5 - j by omega], HRe.out, hb3, h36, h6b, by omega, hnc, hcm⟩, by simp [intOf]; omega⟩
    · intro hJ
      go_wp2_with (first
        | (go_at_call 66; refine (clone_any n c A x _ ((HX.out.below (HS3.out.out (by simp; omega))).more HS3.out.size) (by omega) HA0.out).mono ?_; rintro e w6 ⟨A6, c6, rfl, ho, hb⟩; have HO6 := Lib.hid ho; have HS6 := Lib.hid (HS3.out.below hb); have hb3w : b3 < w3.heap.size := HS3.out.lt 0 rfl; have h36 := hb.size; clear ho hb)
        | (refine wpList_as rfl 22 rfl (.int .u64 (n : Int)) ?_ ?_; (· exact ex_cnv rfl rfl (fun w => cvIU n (by omega) w) _))
        | (refine wpList_load_rd rfl 24 _ rfl 32 _ Tryd.underlying24 rfl (by kernel_rfl) ⟨b3, 0, none⟩ rfl (u8v s) (fun i hi => by rw [add_lit0]; exact HS6.out.cell 0 i rfl hi) ?_)
        | (go_at_call 81; refine (rounds_look s HSl.out n (by omega) _ (HP.out.below (HS6.out.out (by simp; omega)))).mono ?_; rintro e w8 ⟨A8, c8, D, rfl, hr, hb⟩; have HR8 := Lib.hid hr; have HB8 := Lib.hid hb; clear hr hb))
      apply wp_label
      rename_i hk
      obtain ⟨ad6, e6, _, _⟩ := HO6.out.rd (show 0 < n * 1 by omega)
      have hd6 := HO6.out.off ad6 e6
      obtain ⟨g6, hg6⟩ : ∃ g, g = ad6.block := ⟨_, rfl⟩
      rw [← hg6] at hd6
      rw [hd6] at e6
      subst e6
      obtain ⟨ad8, e8, _, _⟩ := HR8.out.own.rd (show 0 < 6 * 2 by omega)
      have hd8 := HR8.out.own.off ad8 e8
      obtain ⟨g8, hg8⟩ : ∃ g, g = ad8.block := ⟨_, rfl⟩
      rw [← hg8] at hd8
      rw [hd8] at e8
      subst e8
      obtain ⟨F, hrow, hF, hb6⟩ := HO6.out.row
      have h6 := HO6.out.cap
      have h6m := HO6.out.capM
      have hgb : (⟨g6, 0, none⟩ : Addr).block = g6 := rfl
      rw [hgb] at hrow hb6
      have hlt6 := hrow.lt
      have hs8 := (HS6.out.add hrow (by have := HS3.out.size; omega) (by simp; omega)).below HB8.out
      exact hk _ _ <| hJ _ _ ⟨5, b3, g6, c6, g8, c8, w6.heap.size, D, F, _, _, _, _, _, _, _, _, _, _, _, _, _, _, _, _, _, _, _, _, _, _, _, _, _, _, _, _, _, _, _, _, _, _, _, _, _, _, _, _, _, _, _, _, _, _, _, _, _, _, _, _, _, _, _, _, _, _, _, _, _, _, _, _, _, _, _, _, _, _, _, _, _, _, _, _, _, _, _, _, _, _, rfl, by omega, hs8, fun q hq => by rw [hF q (by omega)]; rfl, HR8.out, hb3, by omega, hlt6, HB8.out.size, h6, h6m⟩
end Go.Proofs.YtjhgndnpihnidaaDoor
/- A new variable in a region in which rows are taken over. -/
namespace Go.Proofs.YtjhgndnpihnidaaDoor
set_option maxRecDepth 40000
open Go.RowKit
def footP : Value → Option Nat
  | .pointer (some a) => some a.block
  | _ => none
def OF.new (base : Nat) (t : TypeId) (n : Nat) (f : Nat → Value) : OF :=
  ⟨fun v w => ∃ b, v = .pointer (some ⟨b, 0, none⟩) ∧ base ≤ b ∧ w.rowIs b t n f, footP,
    fun _ _ _ row ⟨b, e1, h1, h⟩ hg hne => ⟨b, e1, h1, h.of_block (hg.block b h.lt (fun er => hne b (by rw [e1]; rfl) er.symm))⟩,
    fun _ _ b ⟨b', e1, _, h⟩ hf => by subst e1; injection hf with hf; subst hf; exact h.lt⟩
section
variable {P : Program} {ops : Array Oper} {B : Nat} {w0 : World} {o : Oper} {lk : Tmp → OF}
theorem opObO_new (base : Nat) {t : TypeId} (hg : o.guard = none) (hop : o.op = .alloc t) (cs : Array Value) (hz : (P.info? t).bind (·.zero) = some (.agg cs)) (n : Nat) (f : Nat → Value) (hn : cs.size = n) (hc : ∀ i, i < n → cs[i]? = some (f i)) (hb : base ≤ w0.heap.size) : opObO P ops B w0 o (OF.new base t n f) lk none :=
  opObO_of hg fun a w hbel hf => by
    have hr : (Instr.alloc t true (.tuple #[])).run P w = .ok (.pointer (some ⟨w.heap.size, 0, none⟩)) (w.alloc (.cells cs t)) := by
      cases hq : P.info? t with
      | none => rw [hq] at hz; simp at hz
      | some i =>
        rw [hq] at hz
        simp at hz
        simp [Instr.alloc, zeroValue, typeInfo, hq, hz, newVar, Value.cells, go_sem]
    unfold Oper.wp execOp
    simp only [hop, Sem.run_bind, hr, Result.andThen_ok, Sem.run_pure]
    have h0 := (HS.nil w).alloc cs t n f hn hc
    have hbw := h0.out (by simp)
    exact ⟨_, none, rfl, ⟨w.heap.size, rfl, Nat.le_trans hb hbel.size, h0.row 0 rfl⟩, ⟨hbw.os, hbw.tape, hbw.output, hbw.size, fun k hk _ => hbw.block k hk⟩, (fun b hb => by cases hb), (fun b hb => by injection hb with hb; subst hb; exact .inl (Nat.le_refl _))⟩
end
end Go.Proofs.YtjhgndnpihnidaaDoor
