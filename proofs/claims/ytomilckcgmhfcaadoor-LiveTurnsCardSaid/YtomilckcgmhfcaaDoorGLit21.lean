/- Lemmas that the proof stands on. -/
import Derived.Test.YtomilckcgmhfcaaDoorGLit20
namespace Go.Proofs.YtomilckcgmhfcaaDoor
set_option maxRecDepth 40000
set_option maxHeartbeats 64000000
open Go.RowKit
def liveF (F : Nat → Value) (T : Nat → Nat) : Nat → Value := fun i => if i < 1957 then F i else tpV (T (i - 1957))
def LRole (L : Nat) (s : StV) (T : Nat → Nat) (v : Nat → TV) (r b : Nat) : Prop := match r with
 | 0 => b = L
 | 1 => OnA s.aH b
 | 2 => OnA s.aE b
 | 3 => OnA s.aV b
 | 4 => OnA s.aB b
 | 5 => OnA s.aP b
 | 6 => OnA s.aC b
 | 7 => OnA s.aS b
 | j + 8 => j < 5 ∧ (v j).own (T j) b
def LOwn (L : Nat) (s : StV) (T : Nat → Nat) (v : Nat → TV) (b : Nat) : Prop := ∃ r, LRole L s T v r b
def LZer (v : Nat → TV) (b : Nat) : Prop := ∃ j, j < 5 ∧ OnA (v j).zA b
structure LM (w : World) (base L : Nat) (s : StV) (T : Nat → Nat) (v : Nat → TV) : Prop where
 baseL : base ≤ L
 row : w.rowIs L 70 1962 (liveF s.F T)
 ok : StOk w w.heap.size s
 own : StOwn w base s
 tm : ∀ j, j < 5 → TM w base (T j) (v j)
 apart : ∀ r r' b, LRole L s T v r b → LRole L s T v r' b → r = r'
 zap : ∀ b, LZer v b → ¬ LOwn L s T v b
section
variable {w w' : World} {base L : Nat} {s t : StV} {T : Nat → Nat} {v : Nat → TV}
theorem LM.role_lt (h : LM w base L s T v) : ∀ r b, LRole L s T v r b → b < w.heap.size := fun r b hr => by
 match r, hr with
 | 0, hr => rw [show b = L from hr]; exact h.row.lt
 | 1, hr => exact (h.own.H.on hr).2
 | 2, hr => exact (h.own.E.on hr).2
 | 3, hr => exact (h.own.V.on hr).2
 | 4, hr => exact (h.own.B.on hr).2
 | 5, hr => exact (h.own.P.on hr).2
 | 6, hr => exact (h.own.C.on hr).2
 | 7, hr => exact (h.own.S.on hr).2
 | j + 8, hr => exact (h.tm j hr.1).lt hr.2
theorem LM.role_ge (h : LM w base L s T v) : ∀ r b, LRole L s T v r b → base ≤ b := fun r b hr => by
 match r, hr with
 | 0, hr => rw [show b = L from hr]; exact h.baseL
 | 1, hr => exact (h.own.H.on hr).1
 | 2, hr => exact (h.own.E.on hr).1
 | 3, hr => exact (h.own.V.on hr).1
 | 4, hr => exact (h.own.B.on hr).1
 | 5, hr => exact (h.own.P.on hr).1
 | 6, hr => exact (h.own.C.on hr).1
 | 7, hr => exact (h.own.S.on hr).1
 | j + 8, hr => exact (h.tm j hr.1).ge hr.2
theorem LM.lt (h : LM w base L s T v) {b : Nat} (hb : LOwn L s T v b) : b < w.heap.size := by
 obtain ⟨r, hr⟩ := hb; exact h.role_lt r b hr
theorem LM.ge (h : LM w base L s T v) {b : Nat} (hb : LOwn L s T v b) : base ≤ b := by
 obtain ⟨r, hr⟩ := hb; exact h.role_ge r b hr
theorem LM.zlt (h : LM w base L s T v) {b : Nat} (hb : LZer v b) : b < w.heap.size := by
 obtain ⟨j, hj, hz⟩ := hb; exact (h.tm j hj).zlt hz
theorem LM.bw (h : LM w base L s T v) : base ≤ w.heap.size := lT h.baseL (Nat.le_of_lt h.row.lt)
theorem StOk.of_own {w0 w : World} {B base : Nat} {s : StV} (h : StOk w0 B s) (ho : StOwn w base s) : StOk w w.heap.size s := by
 have one : ∀ {A : Option Addr} {n : Nat} {f : Nat → Value}, Rd w w.heap.size A (n * 1) f → Rd w w.heap.size A n f := fun h => by rwa [Nat.mul_one] at h
 exact { h with rV := ho.V.rd, rB := one ho.B.rd, rP := one ho.P.rd, rC := one ho.C.rd, rS := one ho.S.rd, rH := ho.H.rd, rE := ho.E.rd }
theorem LM.keep (h : LM w base L s T v) (hs : w.heap.size ≤ w'.heap.size) (hk : ∀ b, LOwn L s T v b ∨ LZer v b → w'.heap[b]? = w.heap[b]?) : LM w' base L s T v := by
 have o : StOwn w' base s := ⟨h.own.H.blk fun ad e => hk _ (.inl ⟨1, ad, e, rfl⟩), h.own.E.blk fun ad e => hk _ (.inl ⟨2, ad, e, rfl⟩), h.own.V.blk fun ad e => hk _ (.inl ⟨3, ad, e, rfl⟩), h.own.B.blk fun ad e => hk _ (.inl ⟨4, ad, e, rfl⟩), h.own.P.blk fun ad e => hk _ (.inl ⟨5, ad, e, rfl⟩), h.own.C.blk fun ad e => hk _ (.inl ⟨6, ad, e, rfl⟩), h.own.S.blk fun ad e => hk _ (.inl ⟨7, ad, e, rfl⟩)⟩
 exact {
  baseL := h.baseL
  row := h.row.of_block (hk L (.inl ⟨0, rfl⟩))
  ok := h.ok.of_own o
  own := o
  tm := fun j hj => (h.tm j hj).keep hs fun b hb => hk b (by
   rcases hb with h1 | h1
   ·exact .inl ⟨j + 8, hj, h1⟩
   ·exact .inr ⟨j, hj, h1⟩)
  apart := h.apart
  zap := h.zap }
theorem LM.below (h : LM w base L s T v) (hb : Below w.heap.size w w') : LM w' base L s T v := h.keep hb.size fun b hbb => hb.block b (by
 rcases hbb with h1 | h1
 ·exact h.lt h1
 ·exact h.zlt h1)
theorem LM.chg {S : Nat → Prop} (h : LM w base L s T v) (hc : Chg S w w') (hS : ∀ b, LOwn L s T v b ∨ LZer v b → ¬ S b) : LM w' base L s T v := h.keep hc.size fun b hb => hc.block b (by
 rcases hb with h1 | h1
 ·exact h.lt h1
 ·exact h.zlt h1) (hS b hb)
theorem LM.cell (h : LM w base L s T v) (i : Nat) (hi : i < 1957) : w.cell? ⟨L, i, none⟩ = some (s.F i) := (h.row.cell (by omega)).trans (by unfold liveF; rw [if_pos hi])
theorem LM.ptr (h : LM w base L s T v) (j : Nat) (hj : j < 5) : w.cell? ⟨L, 1957 + j, none⟩ = some (tpV (T j)) := (h.row.cell (by omega)).trans (by unfold liveF; rw [if_neg (by omega), Nat.add_sub_cancel_left])
structure LStep (w w' : World) (L : Nat) (s : StV) (T : Nat → Nat) (v : Nat → TV) (s' : StV) (T' : Nat → Nat) (v' : Nat → TV) : Prop where
 chg : Chg (LOwn L s T v) w w'
 newO : ∀ b, LOwn L s' T' v' b → LOwn L s T v b ∨ w.heap.size ≤ b
 newZ : ∀ b, LZer v' b → LZer v b ∨ w.heap.size ≤ b
end
section
variable {w w1 w' : World} {base L : Nat} {s s1 s' : StV} {T T1 T' : Nat → Nat} {v v1 v' : Nat → TV}
theorem LStep.refl (hb : Below w.heap.size w w') : LStep w w' L s T v s T v := ⟨(Chg.of_below hb).mono (fun _ _ h => h), fun _ h => .inl h, fun _ h => .inl h⟩
theorem LStep.trans (h : LStep w w1 L s T v s1 T1 v1) (k : LStep w1 w' L s1 T1 v1 s' T' v') : LStep w w' L s T v s' T' v' where
 chg := h.chg.trans k.chg h.newO
 newO := fun b hb => by
  rcases k.newO b hb with h1 | h1
  ·exact h.newO b h1
  ·exact .inr (lT h.chg.size h1)
 newZ := fun b hb => by
  rcases k.newZ b hb with h1 | h1
  ·exact h.newZ b h1
  ·exact .inr (lT h.chg.size h1)
theorem LStep.below (h : LStep w w' L s T v s' T' v') (hm : LM w base L s T v) {B : Nat} (hB : B ≤ base) : Below B w w' := h.chg.below (lT hB hm.bw) (fun _ hb => lT hB (hm.ge hb))
theorem LM.tree (h : LM w base L s T v) {j : Nat} (hj : j < 5) {u : TV} (hm : TM w' base (T j) u) (hs : TStep w w' (T j) (v j) u) : LM w' base L s T (updX v j u) ∧ LStep w w' L s T v s T (updX v j u) := by
 have hno : ∀ r b, LRole L s T v r b → r ≠ j + 8 → ¬ (v j).own (T j) b := fun r b hr hn ho => hn (h.apart r (j + 8) b hr ⟨hj, ho⟩)
 have hkeep : ∀ r b, LRole L s T v r b → r ≠ j + 8 → w'.heap[b]? = w.heap[b]? := fun r b hr hn => hs.chg.block b (h.role_lt r b hr) (hno r b hr hn)
 have o : StOwn w' base s := ⟨h.own.H.blk fun ad e => hkeep 1 _ ⟨ad, e, rfl⟩ (by omega), h.own.E.blk fun ad e => hkeep 2 _ ⟨ad, e, rfl⟩ (by omega), h.own.V.blk fun ad e => hkeep 3 _ ⟨ad, e, rfl⟩ (by omega), h.own.B.blk fun ad e => hkeep 4 _ ⟨ad, e, rfl⟩ (by omega), h.own.P.blk fun ad e => hkeep 5 _ ⟨ad, e, rfl⟩ (by omega), h.own.C.blk fun ad e => hkeep 6 _ ⟨ad, e, rfl⟩ (by omega), h.own.S.blk fun ad e => hkeep 7 _ ⟨ad, e, rfl⟩ (by omega)⟩
 have key : ∀ r b, LRole L s T (updX v j u) r b → LRole L s T v r b ∨ (r = j + 8 ∧ w.heap.size ≤ b) := fun r b hr => by
  match r, hr with
  | 0, hr => exact .inl hr
  | 1, hr => exact .inl hr
  | 2, hr => exact .inl hr
  | 3, hr => exact .inl hr
  | 4, hr => exact .inl hr
  | 5, hr => exact .inl hr
  | 6, hr => exact .inl hr
  | 7, hr => exact .inl hr
  | k + 8, hr =>
   obtain ⟨hk, ho⟩ := hr
   by_cases e : k = j
   ·subst e
    rw [zb8] at ho
    rcases hs.new b ho with h1 | h1
    ·exact .inl ⟨hk, h1⟩
    ·exact .inr ⟨rfl, h1⟩
   ·rw [zdn v u e] at ho; exact .inl ⟨hk, ho⟩
 have hz : ∀ b, LZer (updX v j u) b ↔ LZer v b := fun b => by
  constructor
  ·rintro ⟨k, hk, ho⟩
   by_cases e : k = j
   ·subst e; rw [zb8, hs.zA] at ho; exact ⟨k, hk, ho⟩
   ·rw [zdn v u e] at ho; exact ⟨k, hk, ho⟩
  ·rintro ⟨k, hk, ho⟩
   by_cases e : k = j
   ·subst e; exact ⟨k, hk, by rw [zb8, hs.zA]; exact ho⟩
   ·exact ⟨k, hk, by rw [zdn v u e]; exact ho⟩
 refine ⟨{
  baseL := h.baseL
  row := h.row.of_block (hkeep 0 L rfl (by omega))
  ok := h.ok.of_own o
  own := o
  tm := fun k hk => by
   by_cases e : k = j
   ·subst e; rw [zb8]; exact hm
   ·rw [zdn v u e]
    exact (h.tm k hk).keep hs.chg.size fun b hb => by
     rcases hb with h1 | h1
     ·exact hkeep (k + 8) b ⟨hk, h1⟩ (by omega)
     ·exact hs.chg.block b ((h.tm k hk).zlt h1) (fun h2 => h.zap b ⟨k, hk, h1⟩ ⟨j + 8, hj, h2⟩)
  apart := fun r r' b h1 h2 => by
   rcases key r b h1 with k1 | ⟨e1, k1⟩ <;> rcases key r' b h2 with k2 | ⟨e2, k2⟩
   ·exact h.apart r r' b k1 k2
   ·have := h.role_lt r b k1; omega
   ·have := h.role_lt r' b k2; omega
   ·rw [e1, e2]
  zap := fun b hb ⟨r, hr⟩ => by
   rw [hz] at hb
   rcases key r b hr with k1 | ⟨_, k1⟩
   ·exact h.zap b hb ⟨r, k1⟩
   ·have := h.zlt hb; omega }, ⟨hs.chg.mono (fun b _ hb => ⟨j + 8, hj, hb⟩), fun b ⟨r, hr⟩ => ?_, fun b hb => .inl ((hz b).1 hb)⟩⟩
 rcases key r b hr with k1 | ⟨_, k1⟩
 ·exact .inl ⟨r, k1⟩
 ·exact .inr k1
end
def LTree (T : Nat → Nat) (v : Nat → TV) (b : Nat) : Prop := ∃ j, j < 5 ∧ (v j).own (T j) b
structure TJ (base L : Nat) (s : StV) (T : Nat → Nat) (w0 : World) (v0 : Nat → TV) (w : World) (v : Nat → TV) (m : Nat → Nat) (x : Nat → Nat → Nat) : Prop where
 lm : LM w base L s T v
 tc : Chg (LTree T v0) w0 w
 tn : ∀ b, LTree T v b → LTree T v0 b ∨ w0.heap.size ≤ b
 tz : ∀ j, j < 5 → (v j).zA = (v0 j).zA
 st : ∀ j, j < 5 → TSt (v j) (m j) (x j)
 lim : ∀ j, j < 5 → (v j).lim = lvL j
 D : ∀ j, j < 5 → (v j).D = (v0 j).D
 H : ∀ j, j < 5 → (v j).H = (v0 j).H
 sha : (0 < base ∧ 1 < base) → ShaPkg w
theorem zq0 {L : Nat} {s : StV} {T : Nat → Nat} {v0 v : Nat → TV} {b : Nat} (h : LOwn L s T v b) : LOwn L s T v0 b ∨ LTree T v b := by
 obtain ⟨r, hr⟩ := h
 match r, hr with
 | 0, hr => exact .inl ⟨0, hr⟩
 | 1, hr => exact .inl ⟨1, hr⟩
 | 2, hr => exact .inl ⟨2, hr⟩
 | 3, hr => exact .inl ⟨3, hr⟩
 | 4, hr => exact .inl ⟨4, hr⟩
 | 5, hr => exact .inl ⟨5, hr⟩
 | 6, hr => exact .inl ⟨6, hr⟩
 | 7, hr => exact .inl ⟨7, hr⟩
 | j + 8, hr => exact .inr ⟨j, hr.1, hr.2⟩
theorem zfj {L : Nat} {s : StV} {T : Nat → Nat} {v : Nat → TV} {b : Nat} (h : LTree T v b) : LOwn L s T v b := by
 obtain ⟨j, hj, ho⟩ := h
 exact ⟨j + 8, hj, ho⟩
theorem TJ.ls {base L : Nat} {s : StV} {T : Nat → Nat} {w0 w : World} {v0 v : Nat → TV} {m : Nat → Nat} {x : Nat → Nat → Nat} (h : TJ base L s T w0 v0 w v m x) : LStep w0 w L s T v0 s T v where
 chg := h.tc.mono (fun _ _ hb => zfj hb)
 newO := fun b hb => by
  rcases zq0 (v0 := v0) hb with h1 | h1
  ·exact .inl h1
  ·rcases h.tn b h1 with h2 | h2
   ·exact .inl (zfj h2)
   ·exact .inr h2
 newZ := fun b ⟨j, hj, hz⟩ => .inl ⟨j, hj, by rw [← h.tz j hj]; exact hz⟩
theorem TJ.step {base L : Nat} {s : StV} {T : Nat → Nat} {w0 w w' w2 : World} {v0 v : Nat → TV} {m : Nat → Nat} {x : Nat → Nat → Nat} (h : TJ base L s T w0 v0 w v m x) (hb : Below w.heap.size w w') {j : Nat} (hj : j < 5) {u : TV} {m' : Nat} {x' : Nat → Nat} (hm : TM w2 base (T j) u) (hs : TStep w' w2 (T j) (v j) u) (hst : TSt u m' x') (hH : u.H = (v j).H) :
 TJ base L s T w0 v0 w2 (updX v j u) (updX m j m') (updX x j x') := by
 obtain ⟨h1, h2⟩ := (h.lm.below hb).tree hj hm hs
 have up : ∀ {α : Type} {p : Nat → α → Prop} (f : Nat → α) (a : α), p j a → (∀ k, k < 5 → p k (f k)) → ∀ k, k < 5 → p k (updX f j a k) := fun f a ha hf k hk => by
  by_cases e : k = j
  ·subst e; rw [zb8]; exact ha
  ·rw [zdn f a e]; exact hf k hk
 have hc2 : Chg (LTree T v0) w0 w' := h.tc.trans (Chg.of_below (S := fun _ => False) hb) (fun _ h => h.elim)
 exact {
  lm := h1
  tc := hc2.trans hs.chg (fun b ho => by
   rcases h.tn b ⟨j, hj, ho⟩ with h3 | h3
   ·exact .inl h3
   ·exact .inr h3)
  tn := fun b ⟨k, hk, ho⟩ => by
   by_cases e : k = j
   ·subst e
    rw [zb8] at ho
    rcases hs.new b ho with h3 | h3
    ·exact h.tn b ⟨k, hk, h3⟩
    ·exact .inr (lT hc2.size h3)
   ·rw [zdn v u e] at ho; exact h.tn b ⟨k, hk, ho⟩
  tz := up (p := fun k (a : TV) => a.zA = (v0 k).zA) v u (hs.zA.trans (h.tz j hj)) h.tz
  st := fun k hk => by
   by_cases e : k = j
   ·subst e; rw [zb8, zb8, zb8]; exact hst
   ·rw [zdn _ _ e, zdn _ _ e, zdn _ _ e]; exact h.st k hk
  lim := up (p := fun k (a : TV) => a.lim = lvL k) v u (hs.lim.trans (h.lim j hj)) h.lim
  D := up (p := fun k (a : TV) => a.D = (v0 k).D) v u (hs.D.trans (h.D j hj)) h.D
  H := up (p := fun k (a : TV) => a.H = (v0 k).H) v u (hH.trans (h.H j hj)) h.H
  sha := fun hg => ((h.sha hg).below hb).belowB hg (h2.below (h.lm.below hb) lR) }
theorem Rd.cell_' {w : World} {B n : Nat} {A : Option Addr} {f : Nat → Value} (h : Rd w B A n f) {ad : Addr} (hA : A = some ad) {k : Nat} (hk : k < n) : w.cell? (ad.add k) = some (f k) := by
 subst hA
 exact h.cell_ hk
def tchM (own : Bool) (m : Nat → Nat) (i : Nat) : Nat → Nat := fun j => if own = false ∧ j = 0 then m j else layM (m j) (i / lvG j)
def tchX (own : Bool) (x y : Nat → Nat → Nat) (i : Nat) : Nat → Nat → Nat := fun j => if own = false ∧ j = 0 then x j else setN (x j) (i / lvG j) (fun q => y j (i / lvG j * 32 + q))
theorem TJ.re {base L : Nat} {s : StV} {T : Nat → Nat} {w0 w : World} {v0 v : Nat → TV} {m m' : Nat → Nat} {x x' : Nat → Nat → Nat} (h : TJ base L s T w0 v0 w v m x) (hm : ∀ j, j < 5 → m' j = m j) (hx : ∀ j, j < 5 → x' j = x j) : TJ base L s T w0 v0 w v m' x' :=
 { h with st := fun j hj => by rw [hm j hj, hx j hj]; exact h.st j hj }
theorem zo4 {x y y' : Nat → Nat} {k : Nat} (h : ∀ q, q < 32 → y q = y' q) : setN x k y = setN x k y' := by
 funext i
 unfold setN
 split
 ·exact h _ (by omega)
 ·rfl
namespace LiveTouch
theorem zeb (vs : Array Value) (w : World) : (callFunc 64 vs).run Tryd.prog w = .ok (.enter 64 vs) w := by kernel_rfl
theorem zhc (vs : Array Value) (w : World) : (callFunc 34 vs).run Tryd.prog w = .ok (.enter 34 vs) w := by kernel_rfl
theorem zhd (vs : Array Value) (w : World) : (callFunc 65 vs).run Tryd.prog w = .ok (.enter 65 vs) w := by kernel_rfl
theorem zwl (vs : Array Value) (w : World) : (callFunc 60 vs).run Tryd.prog w = .ok (.enter 60 vs) w := by kernel_rfl
theorem quo4 (i : Nat) (h : i ≤ 9223372036854775807) (w : World) : (binOp .quo 3 (.int .i64 (i : Int)) (.int .i64 4)).run Tryd.prog w = .ok (.int .i64 ((i / 4 : Nat) : Int)) w := by
 simp [go_sem, IntKind.wrap, IntKind.bits, IntKind.signed]
 omega
theorem quo32 (i : Nat) (h : i ≤ 9223372036854775807) (w : World) : (binOp .quo 3 (.int .i64 (i : Int)) (.int .i64 32)).run Tryd.prog w = .ok (.int .i64 ((i / 32 : Nat) : Int)) w := by
 simp [go_sem, IntKind.wrap, IntKind.bits, IntKind.signed]
 omega
end LiveTouch
theorem zhe {f : Nat → Value} {i : Nat} (h : f i = .int .u8 ((nat (f i) : Nat) : Int) ∧ nat (f i) < 256) : f i = u8v (b8 f) i := by
 show _ = Value.int .u8 ((nat (f i) % 256 : Nat) : Int)
 rw [Nat.mod_eq_of_lt h.2]; exact h.1
theorem zde {w : World} {base z n c : Nat} {e : TypeId} {A : Option Addr} {f : Nat → Value} (h : OwnZ w base e z A n c f) (hn : 0 < n) : ∃ bl, A = some ⟨bl, 0, none⟩ := by
 obtain ⟨g, cap, hv, hb, hlt⟩ := World.ownsRow.form h hn
 exact ⟨g, by injection hv⟩
open LiveTouch in
theorem zj4 (base L n i : Nat) (s : StV) (T : Nat → Nat) (w : World) (v : Nat → TV) (m : Nat → Nat) (x : Nat → Nat → Nat) (hJ : TJ base L s T w v w v m x) (hi : i < n) (hn : n ≤ 65536) (hV : s.nV = n) (hB : s.nB = n) (hP : s.nP = n) (hC : s.nC = n) (hS : s.nS = n) (hm : ∀ j, j < 5 → i / lvG j ≤ m j) (hpB : 0 < base ∧ 1 < base) :
 Calls Tryd.prog 41 #[.pointer (some ⟨L, 0, none⟩), .int .i64 (i : Int), .bool true] w fun r w' => ∃ v', r = .returned (.tuple #[]) ∧ TJ base L s T w v w' v' (tchM true m i) (tchX true x (lvX s) i) := by
 have HJ0 := Hd hJ
 have HPB := Hd hpB
 have HNV := Hd hV
 obtain ⟨bV, hAV⟩ : ∃ bl, s.aV = some ⟨bl, 0, none⟩ := zde hJ.lm.own.V (by omega)
 have HAV := Hd hAV
 have HF11 := Hd (show s.F 721 = .slice (some ⟨bV, 0, none⟩) n s.cV by rw [hJ.lm.ok.f11, hAV, hV])
 have HF12 := Hd (show s.F 722 = .slice s.aB n s.cB by rw [hJ.lm.ok.f12, hB])
 have HF15 := Hd (show s.F 987 = .slice s.aP n s.cP by rw [hJ.lm.ok.f15, hP])
 have HF16 := Hd (show s.F 988 = .slice s.aC n s.cC by rw [hJ.lm.ok.f16, hC])
 have HF21 := Hd (show s.F 1092 = .slice s.aS n s.cS by rw [hJ.lm.ok.f21, hS])
 have HScV := Hd (hJ.lm.ok.scV i (by omega))
 have HLB := Hd (show n ≤ s.cB from hB ▸ hJ.lm.ok.lB.1)
 have HLP := Hd (show n ≤ s.cP from hP ▸ hJ.lm.ok.lP.1)
 have HLC := Hd (show n ≤ s.cC from hC ▸ hJ.lm.ok.lC.1)
 have HLS := Hd (show n ≤ s.cS from hS ▸ hJ.lm.ok.lS.1)
 have HRB := Hd (fun (wz : World) (vz : Nat → TV) (hz : LM wz base L s T vz) => show Rd wz wz.heap.size s.aB n (u64v fun i => nat (s.Bal i)) from hB ▸ hz.ok.rB.congr (fun i hi => (hz.ok.scB i hi).1))
 have HRS := Hd (fun (wz : World) (vz : Nat → TV) (hz : LM wz base L s T vz) => show Rd wz wz.heap.size s.aS n (u64v fun i => nat (s.Sco i)) from hS ▸ hz.ok.rS.congr (fun i hi => (hz.ok.scS i hi).1))
 have HRP := Hd (fun (wz : World) (vz : Nat → TV) (hz : LM wz base L s T vz) => show Rd wz wz.heap.size s.aP n (u8v (b8 s.Prv)) from hP ▸ hz.ok.rP.congr (fun i hi => zhe (hz.ok.scP i hi)))
 have HRC := Hd (fun (wz : World) (vz : Nat → TV) (hz : LM wz base L s T vz) => show Rd wz wz.heap.size s.aC n (u8v (b8 s.Cur)) from hC ▸ hz.ok.rC.congr (fun i hi => zhe (hz.ok.scC i hi)))
 have HK0 := Hd (show i ≤ m 0 by have h := hm 0 (by omega); rw [show i / lvG 0 = i from Nat.div_one i] at h; exact h)
 have HKL0 := Hd (show i < lvL 0 by show i < 65536; omega)
 have HK1 := Hd (show i / 4 ≤ m 1 from hm 1 (by omega))
 have HKL1 := Hd (show i / 4 < lvL 1 by show i / 4 < 16384; omega)
 have HK4 := Hd (show i / 4 ≤ m 4 from hm 4 (by omega))
 have HKL4 := Hd (show i / 4 < lvL 4 by show i / 4 < 16384; omega)
 have HK2 := Hd (show i / 32 ≤ m 2 from hm 2 (by omega))
 have HKL2 := Hd (show i / 32 < lvL 2 by show i / 32 < 2048; omega)
 have HK3 := Hd (show i / 32 ≤ m 3 from hm 3 (by omega))
 have HKL3 := Hd (show i / 32 < lvL 3 by show i / 32 < 2048; omega)
 have HB := Hd hB
 have HP := Hd hP
 have HC := Hd hC
 have HS := Hd hS
 clear hJ hm hpB hV hB hP hC hS hAV
 go_enter Tryd.func41, Tryd.ntmps41
 go_upto_region 1 with fail
 refine zao (l := [_, _, _, _, _, _, _, _, _, _, _, _, _, _]) (tl := []) (B := w.heap.size) (w0 := w) [sI (.pointer (some ⟨L, 0, none⟩)), sI (.pointer (some ⟨L, 0, none⟩)), sI (.pointer (some ⟨L, 1957, none⟩)), sI (tpV (T 0)), sI (.int .i64 ((i : Nat) : Int)), sI (.pointer (some ⟨L, 0, none⟩)), sI (.pointer (some ⟨L, 0, none⟩)), sI (.pointer (some ⟨L, 0, none⟩)), sI (.pointer (some ⟨L, 721, none⟩)), sI (.slice (some ⟨bV, 0, none⟩) (n) (s.cV)), sI (.int .i64 ((i : Nat) : Int)), sI (.pointer (some ⟨bV, i * 86, none⟩)), sI (.agg (arr 86 fun q => s.V (i * 86 + q))), sI (rootV (validN fun q => s.V (i * 86 + q)))] (by kernel_rfl) (by kernel_rfl) rfl lR (Below.refl _ _) ⟨?_, ?_, ?_, ?_, ?_, ?_, ?_, ?_, ?_, ?_, ?_, ?_, ?_, ?_, trivial⟩ ?_
 ·exact (zaa _ rfl (.inl rfl) rfl)
 ·exact zar _ rfl rfl (oT rfl)
 ·exact zal rfl rfl (oT rfl) (fun w => by simp [go_sem])
 ·exact zad rfl rfl (oT rfl) (fun w' hb => zch w' _ _ _ _ (((HJ0.out.lm.below hb)).ptr 0 (by omega)) Ty68)
 ·exact (zaa _ rfl (.inl rfl) rfl)
 ·exact (zaa _ rfl (.inl rfl) rfl)
 ·exact zar _ rfl rfl (oT rfl)
 ·exact zal rfl rfl (oT rfl) (fun w => by simp [go_sem])
 ·exact zal rfl rfl (oT rfl) (fun w => by simp [go_sem])
 ·exact zad rfl rfl (oT rfl) (fun w' hb => PickDraw.za3 w' _ _ _ _ ((((HJ0.out.lm.below hb)).cell 721 (by omega)).trans (congrArg some HF11.out)) Ty36)
 ·exact (zaa _ rfl (.inl rfl) rfl)
 ·exact zak rfl rfl (oT rfl) (oT rfl) (fun w => (zaw (z := 86) w Ty36 (by kernel_rfl) ⟨bV, 0, none⟩ hi).trans (by rw [zai]))
 ·exact zad rfl rfl (oT rfl) (fun w' hb => zax w' bV (i * 86) 86 66 _ (fun q => s.V (i * 86 + q)) (fun q hq => by have h := ((HJ0.out.lm.below hb).ok.rV.cell_' HAV.out (show i * 86 + q < s.nV * 86 by rw [HNV.out]; omega)); rw [zai] at h; exact h) Ty66 rfl (by kernel_rfl))
 ·exact zby zwl rfl rfl (oT rfl) (fun w' hb => (zj2 (fun q => s.V (i * 86 + q)) HScV.out w' ((HJ0.out.sha HPB.out).below hb)).mono fun r w'' ⟨he, hw⟩ => ⟨_, he, rfl, hw⟩)
 ·intro w' hb
  simp only [fin, sI, forall_eq]
  simp only [pcX]
  refine zdm zeb #[tpV (T 0), .int .i64 ((i : Nat) : Int), rootV (validN fun q => s.V (i * 86 + q))] rfl rfl ((zdw _ base (T 0) _ i _ (validN fun q => s.V (i * 86 + q)) w' (((HJ0.out.lm.below hb)).tm 0 (by omega)) (HJ0.out.st 0 (by omega)) HK0.out (by rw [HJ0.out.lim 0 (by omega)]; exact HKL0.out) (zk9 _)).mono ?_)
  rintro r w1 ⟨u0, rfl, h1, h2, h3, h4⟩
  have hJ := HJ0.out.step hb (show 0 < 5 by omega) h1 h2 h3 h4
  have HJ1 := Hd hJ
  clear hJ h1 h2 h3 h4 hb
  refine ⟨_, rfl, ?_⟩
  simp only [seqWp, Act.put, List.setIfInBounds_toArray, List.set_cons_succ, List.set_cons_zero]
  go_upto_region 2 with fail
  refine zao (l := [_, _, _, _, _, _, _, _, _, _, _, _, _, _]) (tl := []) (B := w1.heap.size) (w0 := w1) [sI (.pointer (some ⟨L, 0, none⟩)), sI (.pointer (some ⟨L, 0, none⟩)), sI (.pointer (some ⟨L, 1958, none⟩)), sI (tpV (T 1)), sI (.int .i64 ((i : Nat) : Int)), sI (.int .i64 ((i / 4 : Nat) : Int)), sI (.pointer (some ⟨L, 0, none⟩)), sI (.pointer (some ⟨L, 0, none⟩)), sI (.pointer (some ⟨L, 0, none⟩)), sI (.pointer (some ⟨L, 722, none⟩)), sI (.slice (s.aB) (n) (s.cB)), sI (.int .i64 ((i : Nat) : Int)), sI (.int .i64 ((i / 4 : Nat) : Int)), sI (rootV (fun q => padN (8 * n) (LiveSmall.leS fun i => nat (s.Bal i)) (i / 4 * 32 + q)))] (by kernel_rfl) (by kernel_rfl) rfl lR (Below.refl _ _) ⟨?_, ?_, ?_, ?_, ?_, ?_, ?_, ?_, ?_, ?_, ?_, ?_, ?_, ?_, trivial⟩ ?_
  ·exact (zaa _ rfl (.inl rfl) rfl)
  ·exact zar _ rfl rfl (oT rfl)
  ·exact zal rfl rfl (oT rfl) (fun w => by simp [go_sem])
  ·exact zad rfl rfl (oT rfl) (fun w' hb => zch w' _ _ _ _ (((HJ1.out.lm.below hb)).ptr 1 (by omega)) Ty68)
  ·exact (zaa _ rfl (.inl rfl) rfl)
  ·exact za0 rfl rfl rfl (oT rfl) OpK.const (fun w => quo4 i (by omega) w)
  ·exact (zaa _ rfl (.inl rfl) rfl)
  ·exact zar _ rfl rfl (oT rfl)
  ·exact zal rfl rfl (oT rfl) (fun w => by simp [go_sem])
  ·exact zal rfl rfl (oT rfl) (fun w => by simp [go_sem])
  ·exact zad rfl rfl (oT rfl) (fun w' hb => PickDraw.za3 w' _ _ _ _ ((((HJ1.out.lm.below hb)).cell 722 (by omega)).trans (congrArg some HF12.out)) Ty37)
  ·exact (zaa _ rfl (.inl rfl) rfl)
  ·exact za0 rfl rfl rfl (oT rfl) OpK.const (fun w => quo4 i (by omega) w)
  ·exact zbi zhc rfl rfl (oT rfl) (oT rfl) (fun w' hb => (zep n s.cB (i / 4) s.aB (fun i => nat (s.Bal i)) w' (HRB.out _ _ (HJ1.out.lm.below hb)) HLB.out (by omega) (by omega)).mono fun r w'' ⟨he, hw⟩ => ⟨_, he, rfl, hw⟩)
  ·intro w' hb
   simp only [fin, sI, forall_eq]
   simp only [pcX]
   refine zdm zeb #[tpV (T 1), .int .i64 (((i / 4) : Nat) : Int), rootV (fun q => padN (8 * n) (LiveSmall.leS fun i => nat (s.Bal i)) (i / 4 * 32 + q))] rfl rfl ((zdw _ base (T 1) _ (i / 4) _ (fun q => padN (8 * n) (LiveSmall.leS fun i => nat (s.Bal i)) (i / 4 * 32 + q)) w' (((HJ1.out.lm.below hb)).tm 1 (by omega)) (HJ1.out.st 1 (by omega)) HK1.out (by rw [HJ1.out.lim 1 (by omega)]; exact HKL1.out) (fun q => za6 (fun _ => zbq _ _) _)).mono ?_)
   rintro r w2 ⟨u1, rfl, h1, h2, h3, h4⟩
   have hJ := HJ1.out.step hb (show 1 < 5 by omega) h1 h2 h3 h4
   have HJ2 := Hd hJ
   clear hJ h1 h2 h3 h4 hb
   refine ⟨_, rfl, ?_⟩
   simp only [seqWp, Act.put, List.setIfInBounds_toArray, List.set_cons_succ, List.set_cons_zero]
   go_upto_region 3 with fail
   refine zao (l := [_, _, _, _, _, _, _, _, _, _, _, _, _, _]) (tl := []) (B := w2.heap.size) (w0 := w2) [sI (.pointer (some ⟨L, 0, none⟩)), sI (.pointer (some ⟨L, 0, none⟩)), sI (.pointer (some ⟨L, 1961, none⟩)), sI (tpV (T 4)), sI (.int .i64 ((i : Nat) : Int)), sI (.int .i64 ((i / 4 : Nat) : Int)), sI (.pointer (some ⟨L, 0, none⟩)), sI (.pointer (some ⟨L, 0, none⟩)), sI (.pointer (some ⟨L, 0, none⟩)), sI (.pointer (some ⟨L, 1092, none⟩)), sI (.slice (s.aS) (n) (s.cS)), sI (.int .i64 ((i : Nat) : Int)), sI (.int .i64 ((i / 4 : Nat) : Int)), sI (rootV (fun q => padN (8 * n) (LiveSmall.leS fun i => nat (s.Sco i)) (i / 4 * 32 + q)))] (by kernel_rfl) (by kernel_rfl) rfl lR (Below.refl _ _) ⟨?_, ?_, ?_, ?_, ?_, ?_, ?_, ?_, ?_, ?_, ?_, ?_, ?_, ?_, trivial⟩ ?_
   ·exact (zaa _ rfl (.inl rfl) rfl)
   ·exact zar _ rfl rfl (oT rfl)
   ·exact zal rfl rfl (oT rfl) (fun w => by simp [go_sem])
   ·exact zad rfl rfl (oT rfl) (fun w' hb => zch w' _ _ _ _ (((HJ2.out.lm.below hb)).ptr 4 (by omega)) Ty68)
   ·exact (zaa _ rfl (.inl rfl) rfl)
   ·exact za0 rfl rfl rfl (oT rfl) OpK.const (fun w => quo4 i (by omega) w)
   ·exact (zaa _ rfl (.inl rfl) rfl)
   ·exact zar _ rfl rfl (oT rfl)
   ·exact zal rfl rfl (oT rfl) (fun w => by simp [go_sem])
   ·exact zal rfl rfl (oT rfl) (fun w => by simp [go_sem])
   ·exact zad rfl rfl (oT rfl) (fun w' hb => PickDraw.za3 w' _ _ _ _ ((((HJ2.out.lm.below hb)).cell 1092 (by omega)).trans (congrArg some HF21.out)) Ty37)
   ·exact (zaa _ rfl (.inl rfl) rfl)
   ·exact za0 rfl rfl rfl (oT rfl) OpK.const (fun w => quo4 i (by omega) w)
   ·exact zbi zhc rfl rfl (oT rfl) (oT rfl) (fun w' hb => (zep n s.cS (i / 4) s.aS (fun i => nat (s.Sco i)) w' (HRS.out _ _ (HJ2.out.lm.below hb)) HLS.out (by omega) (by omega)).mono fun r w'' ⟨he, hw⟩ => ⟨_, he, rfl, hw⟩)
   ·intro w' hb
    simp only [fin, sI, forall_eq]
    simp only [pcX]
    refine zdm zeb #[tpV (T 4), .int .i64 (((i / 4) : Nat) : Int), rootV (fun q => padN (8 * n) (LiveSmall.leS fun i => nat (s.Sco i)) (i / 4 * 32 + q))] rfl rfl ((zdw _ base (T 4) _ (i / 4) _ (fun q => padN (8 * n) (LiveSmall.leS fun i => nat (s.Sco i)) (i / 4 * 32 + q)) w' (((HJ2.out.lm.below hb)).tm 4 (by omega)) (HJ2.out.st 4 (by omega)) HK4.out (by rw [HJ2.out.lim 4 (by omega)]; exact HKL4.out) (fun q => za6 (fun _ => zbq _ _) _)).mono ?_)
    rintro r w3 ⟨u4, rfl, h1, h2, h3, h4⟩
    have hJ := HJ2.out.step hb (show 4 < 5 by omega) h1 h2 h3 h4
    have HJ3 := Hd hJ
    clear hJ h1 h2 h3 h4 hb
    refine ⟨_, rfl, ?_⟩
    simp only [seqWp, Act.put, List.setIfInBounds_toArray, List.set_cons_succ, List.set_cons_zero]
    go_upto_region 4 with fail
    refine zao (l := [_, _, _, _, _, _, _, _, _, _, _, _, _, _]) (tl := []) (B := w3.heap.size) (w0 := w3) [sI (.pointer (some ⟨L, 0, none⟩)), sI (.pointer (some ⟨L, 0, none⟩)), sI (.pointer (some ⟨L, 1959, none⟩)), sI (tpV (T 2)), sI (.int .i64 ((i : Nat) : Int)), sI (.int .i64 ((i / 32 : Nat) : Int)), sI (.pointer (some ⟨L, 0, none⟩)), sI (.pointer (some ⟨L, 0, none⟩)), sI (.pointer (some ⟨L, 0, none⟩)), sI (.pointer (some ⟨L, 987, none⟩)), sI (.slice (s.aP) (n) (s.cP)), sI (.int .i64 ((i : Nat) : Int)), sI (.int .i64 ((i / 32 : Nat) : Int)), sI (rootV (fun q => padN n (b8 s.Prv) (i / 32 * 32 + q)))] (by kernel_rfl) (by kernel_rfl) rfl lR (Below.refl _ _) ⟨?_, ?_, ?_, ?_, ?_, ?_, ?_, ?_, ?_, ?_, ?_, ?_, ?_, ?_, trivial⟩ ?_
    ·exact (zaa _ rfl (.inl rfl) rfl)
    ·exact zar _ rfl rfl (oT rfl)
    ·exact zal rfl rfl (oT rfl) (fun w => by simp [go_sem])
    ·exact zad rfl rfl (oT rfl) (fun w' hb => zch w' _ _ _ _ (((HJ3.out.lm.below hb)).ptr 2 (by omega)) Ty68)
    ·exact (zaa _ rfl (.inl rfl) rfl)
    ·exact za0 rfl rfl rfl (oT rfl) OpK.const (fun w => quo32 i (by omega) w)
    ·exact (zaa _ rfl (.inl rfl) rfl)
    ·exact zar _ rfl rfl (oT rfl)
    ·exact zal rfl rfl (oT rfl) (fun w => by simp [go_sem])
    ·exact zal rfl rfl (oT rfl) (fun w => by simp [go_sem])
    ·exact zad rfl rfl (oT rfl) (fun w' hb => PickDraw.za3 w' _ _ _ _ ((((HJ3.out.lm.below hb)).cell 987 (by omega)).trans (congrArg some HF15.out)) Ty39)
    ·exact (zaa _ rfl (.inl rfl) rfl)
    ·exact za0 rfl rfl rfl (oT rfl) OpK.const (fun w => quo32 i (by omega) w)
    ·exact zbi zhd rfl rfl (oT rfl) (oT rfl) (fun w' hb => (zgd n s.cP (i / 32) s.aP (b8 s.Prv) w' (HRP.out _ _ (HJ3.out.lm.below hb)) HLP.out (by omega) (by omega)).mono fun r w'' ⟨he, hw⟩ => ⟨_, he, rfl, hw⟩)
    ·intro w' hb
     simp only [fin, sI, forall_eq]
     simp only [pcX]
     refine zdm zeb #[tpV (T 2), .int .i64 (((i / 32) : Nat) : Int), rootV (fun q => padN n (b8 s.Prv) (i / 32 * 32 + q))] rfl rfl ((zdw _ base (T 2) _ (i / 32) _ (fun q => padN n (b8 s.Prv) (i / 32 * 32 + q)) w' (((HJ3.out.lm.below hb)).tm 2 (by omega)) (HJ3.out.st 2 (by omega)) HK2.out (by rw [HJ3.out.lim 2 (by omega)]; exact HKL2.out) (fun q => za6 (zcz s.Prv) _)).mono ?_)
     rintro r w4 ⟨u2, rfl, h1, h2, h3, h4⟩
     have hJ := HJ3.out.step hb (show 2 < 5 by omega) h1 h2 h3 h4
     have HJ4 := Hd hJ
     clear hJ h1 h2 h3 h4 hb
     refine ⟨_, rfl, ?_⟩
     simp only [seqWp, Act.put, List.setIfInBounds_toArray, List.set_cons_succ, List.set_cons_zero]
     go_upto_region 5 with fail
     refine zao (l := [_, _, _, _, _, _, _, _, _, _, _, _, _, _]) (tl := []) (B := w4.heap.size) (w0 := w4) [sI (.pointer (some ⟨L, 0, none⟩)), sI (.pointer (some ⟨L, 0, none⟩)), sI (.pointer (some ⟨L, 1960, none⟩)), sI (tpV (T 3)), sI (.int .i64 ((i : Nat) : Int)), sI (.int .i64 ((i / 32 : Nat) : Int)), sI (.pointer (some ⟨L, 0, none⟩)), sI (.pointer (some ⟨L, 0, none⟩)), sI (.pointer (some ⟨L, 0, none⟩)), sI (.pointer (some ⟨L, 988, none⟩)), sI (.slice (s.aC) (n) (s.cC)), sI (.int .i64 ((i : Nat) : Int)), sI (.int .i64 ((i / 32 : Nat) : Int)), sI (rootV (fun q => padN n (b8 s.Cur) (i / 32 * 32 + q)))] (by kernel_rfl) (by kernel_rfl) rfl lR (Below.refl _ _) ⟨?_, ?_, ?_, ?_, ?_, ?_, ?_, ?_, ?_, ?_, ?_, ?_, ?_, ?_, trivial⟩ ?_
     ·exact (zaa _ rfl (.inl rfl) rfl)
     ·exact zar _ rfl rfl (oT rfl)
     ·exact zal rfl rfl (oT rfl) (fun w => by simp [go_sem])
     ·exact zad rfl rfl (oT rfl) (fun w' hb => zch w' _ _ _ _ (((HJ4.out.lm.below hb)).ptr 3 (by omega)) Ty68)
     ·exact (zaa _ rfl (.inl rfl) rfl)
     ·exact za0 rfl rfl rfl (oT rfl) OpK.const (fun w => quo32 i (by omega) w)
     ·exact (zaa _ rfl (.inl rfl) rfl)
     ·exact zar _ rfl rfl (oT rfl)
     ·exact zal rfl rfl (oT rfl) (fun w => by simp [go_sem])
     ·exact zal rfl rfl (oT rfl) (fun w => by simp [go_sem])
     ·exact zad rfl rfl (oT rfl) (fun w' hb => PickDraw.za3 w' _ _ _ _ ((((HJ4.out.lm.below hb)).cell 988 (by omega)).trans (congrArg some HF16.out)) Ty39)
     ·exact (zaa _ rfl (.inl rfl) rfl)
     ·exact za0 rfl rfl rfl (oT rfl) OpK.const (fun w => quo32 i (by omega) w)
     ·exact zbi zhd rfl rfl (oT rfl) (oT rfl) (fun w' hb => (zgd n s.cC (i / 32) s.aC (b8 s.Cur) w' (HRC.out _ _ (HJ4.out.lm.below hb)) HLC.out (by omega) (by omega)).mono fun r w'' ⟨he, hw⟩ => ⟨_, he, rfl, hw⟩)
     ·intro w' hb
      simp only [fin, sI, forall_eq]
      simp only [pcX]
      refine zdm zeb #[tpV (T 3), .int .i64 (((i / 32) : Nat) : Int), rootV (fun q => padN n (b8 s.Cur) (i / 32 * 32 + q))] rfl rfl ((zdw _ base (T 3) _ (i / 32) _ (fun q => padN n (b8 s.Cur) (i / 32 * 32 + q)) w' (((HJ4.out.lm.below hb)).tm 3 (by omega)) (HJ4.out.st 3 (by omega)) HK3.out (by rw [HJ4.out.lim 3 (by omega)]; exact HKL3.out) (fun q => za6 (zcz s.Cur) _)).mono ?_)
      rintro r w5 ⟨u3, rfl, h1, h2, h3, h4⟩
      have hJ := HJ4.out.step hb (show 3 < 5 by omega) h1 h2 h3 h4
      have HJ5 := Hd hJ
      clear hJ h1 h2 h3 h4 hb
      refine ⟨_, rfl, ?_⟩
      simp only [seqWp, Act.put, List.setIfInBounds_toArray, List.set_cons_succ, List.set_cons_zero]
      clear HK1
      go_end0
      exact ⟨_, rfl, HJ5.out.re (five (by rw [show tchM true m i 0 = layM (m 0) (i / lvG 0) from rfl, show i / lvG 0 = i from Nat.div_one i]; rfl) (by rfl) (by rfl) (by rfl) (by rfl)) (five (by rw [show tchX true x (lvX s) i 0 = setN (x 0) (i / lvG 0) (fun q => lvX s 0 (i / lvG 0 * 32 + q)) from rfl, show i / lvG 0 = i from Nat.div_one i]; exact zo4 fun q hq => (zss s i q hq).symm) (by have h := HB.out; show setN (x 1) (i / lvG 1) (fun q => lvX s 1 (i / lvG 1 * 32 + q)) = _; unfold lvX numX bytX; simp only [h]; rfl) (by have h := HP.out; show setN (x 2) (i / lvG 2) (fun q => lvX s 2 (i / lvG 2 * 32 + q)) = _; unfold lvX numX bytX; simp only [h]; rfl) (by have h := HC.out; show setN (x 3) (i / lvG 3) (fun q => lvX s 3 (i / lvG 3 * 32 + q)) = _; unfold lvX numX bytX; simp only [h]; rfl) (by have h := HS.out; show setN (x 4) (i / lvG 4) (fun q => lvX s 4 (i / lvG 4 * 32 + q)) = _; unfold lvX numX bytX; simp only [h]; rfl))⟩
open LiveTouch in
theorem ziy (base L n i : Nat) (s : StV) (T : Nat → Nat) (w : World) (v : Nat → TV) (m : Nat → Nat) (x : Nat → Nat → Nat) (hJ : TJ base L s T w v w v m x) (hi : i < n) (hn : n ≤ 65536) (hV : s.nV = n) (hB : s.nB = n) (hP : s.nP = n) (hC : s.nC = n) (hS : s.nS = n) (hm : ∀ j, j < 5 → j ≠ 0 → i / lvG j ≤ m j) (hpB : 0 < base ∧ 1 < base) :
 Calls Tryd.prog 41 #[.pointer (some ⟨L, 0, none⟩), .int .i64 (i : Int), .bool false] w fun r w' => ∃ v', r = .returned (.tuple #[]) ∧ TJ base L s T w v w' v' (tchM false m i) (tchX false x (lvX s) i) := by
 have HJ0 := Hd hJ
 have HPB := Hd hpB
 have HNV := Hd hV
 obtain ⟨bV, hAV⟩ : ∃ bl, s.aV = some ⟨bl, 0, none⟩ := zde hJ.lm.own.V (by omega)
 have HAV := Hd hAV
 have HF11 := Hd (show s.F 721 = .slice (some ⟨bV, 0, none⟩) n s.cV by rw [hJ.lm.ok.f11, hAV, hV])
 have HF12 := Hd (show s.F 722 = .slice s.aB n s.cB by rw [hJ.lm.ok.f12, hB])
 have HF15 := Hd (show s.F 987 = .slice s.aP n s.cP by rw [hJ.lm.ok.f15, hP])
 have HF16 := Hd (show s.F 988 = .slice s.aC n s.cC by rw [hJ.lm.ok.f16, hC])
 have HF21 := Hd (show s.F 1092 = .slice s.aS n s.cS by rw [hJ.lm.ok.f21, hS])
 have HScV := Hd (hJ.lm.ok.scV i (by omega))
 have HLB := Hd (show n ≤ s.cB from hB ▸ hJ.lm.ok.lB.1)
 have HLP := Hd (show n ≤ s.cP from hP ▸ hJ.lm.ok.lP.1)
 have HLC := Hd (show n ≤ s.cC from hC ▸ hJ.lm.ok.lC.1)
 have HLS := Hd (show n ≤ s.cS from hS ▸ hJ.lm.ok.lS.1)
 have HRB := Hd (fun (wz : World) (vz : Nat → TV) (hz : LM wz base L s T vz) => show Rd wz wz.heap.size s.aB n (u64v fun i => nat (s.Bal i)) from hB ▸ hz.ok.rB.congr (fun i hi => (hz.ok.scB i hi).1))
 have HRS := Hd (fun (wz : World) (vz : Nat → TV) (hz : LM wz base L s T vz) => show Rd wz wz.heap.size s.aS n (u64v fun i => nat (s.Sco i)) from hS ▸ hz.ok.rS.congr (fun i hi => (hz.ok.scS i hi).1))
 have HRP := Hd (fun (wz : World) (vz : Nat → TV) (hz : LM wz base L s T vz) => show Rd wz wz.heap.size s.aP n (u8v (b8 s.Prv)) from hP ▸ hz.ok.rP.congr (fun i hi => zhe (hz.ok.scP i hi)))
 have HRC := Hd (fun (wz : World) (vz : Nat → TV) (hz : LM wz base L s T vz) => show Rd wz wz.heap.size s.aC n (u8v (b8 s.Cur)) from hC ▸ hz.ok.rC.congr (fun i hi => zhe (hz.ok.scC i hi)))
 have HK1 := Hd (show i / 4 ≤ m 1 from hm 1 (by omega) (by omega))
 have HKL1 := Hd (show i / 4 < lvL 1 by show i / 4 < 16384; omega)
 have HK4 := Hd (show i / 4 ≤ m 4 from hm 4 (by omega) (by omega))
 have HKL4 := Hd (show i / 4 < lvL 4 by show i / 4 < 16384; omega)
 have HK2 := Hd (show i / 32 ≤ m 2 from hm 2 (by omega) (by omega))
 have HKL2 := Hd (show i / 32 < lvL 2 by show i / 32 < 2048; omega)
 have HK3 := Hd (show i / 32 ≤ m 3 from hm 3 (by omega) (by omega))
 have HKL3 := Hd (show i / 32 < lvL 3 by show i / 32 < 2048; omega)
 have HB := Hd hB
 have HP := Hd hP
 have HC := Hd hC
 have HS := Hd hS
 clear hJ hm hpB hV hB hP hC hS hAV
 go_enter Tryd.func41, Tryd.ntmps41
 go_upto_region 2 with fail
 refine zao (l := [_, _, _, _, _, _, _, _, _, _, _, _, _, _]) (tl := []) (B := w.heap.size) (w0 := w) [sI (.pointer (some ⟨L, 0, none⟩)), sI (.pointer (some ⟨L, 0, none⟩)), sI (.pointer (some ⟨L, 1958, none⟩)), sI (tpV (T 1)), sI (.int .i64 ((i : Nat) : Int)), sI (.int .i64 ((i / 4 : Nat) : Int)), sI (.pointer (some ⟨L, 0, none⟩)), sI (.pointer (some ⟨L, 0, none⟩)), sI (.pointer (some ⟨L, 0, none⟩)), sI (.pointer (some ⟨L, 722, none⟩)), sI (.slice (s.aB) (n) (s.cB)), sI (.int .i64 ((i : Nat) : Int)), sI (.int .i64 ((i / 4 : Nat) : Int)), sI (rootV (fun q => padN (8 * n) (LiveSmall.leS fun i => nat (s.Bal i)) (i / 4 * 32 + q)))] (by kernel_rfl) (by kernel_rfl) rfl lR (Below.refl _ _) ⟨?_, ?_, ?_, ?_, ?_, ?_, ?_, ?_, ?_, ?_, ?_, ?_, ?_, ?_, trivial⟩ ?_
 ·exact (zaa _ rfl (.inl rfl) rfl)
 ·exact zar _ rfl rfl (oT rfl)
 ·exact zal rfl rfl (oT rfl) (fun w => by simp [go_sem])
 ·exact zad rfl rfl (oT rfl) (fun w' hb => zch w' _ _ _ _ (((HJ0.out.lm.below hb)).ptr 1 (by omega)) Ty68)
 ·exact (zaa _ rfl (.inl rfl) rfl)
 ·exact za0 rfl rfl rfl (oT rfl) OpK.const (fun w => quo4 i (by omega) w)
 ·exact (zaa _ rfl (.inl rfl) rfl)
 ·exact zar _ rfl rfl (oT rfl)
 ·exact zal rfl rfl (oT rfl) (fun w => by simp [go_sem])
 ·exact zal rfl rfl (oT rfl) (fun w => by simp [go_sem])
 ·exact zad rfl rfl (oT rfl) (fun w' hb => PickDraw.za3 w' _ _ _ _ ((((HJ0.out.lm.below hb)).cell 722 (by omega)).trans (congrArg some HF12.out)) Ty37)
 ·exact (zaa _ rfl (.inl rfl) rfl)
 ·exact za0 rfl rfl rfl (oT rfl) OpK.const (fun w => quo4 i (by omega) w)
 ·exact zbi zhc rfl rfl (oT rfl) (oT rfl) (fun w' hb => (zep n s.cB (i / 4) s.aB (fun i => nat (s.Bal i)) w' (HRB.out _ _ (HJ0.out.lm.below hb)) HLB.out (by omega) (by omega)).mono fun r w'' ⟨he, hw⟩ => ⟨_, he, rfl, hw⟩)
 ·intro w' hb
  simp only [fin, sI, forall_eq]
  simp only [pcX]
  refine zdm zeb #[tpV (T 1), .int .i64 (((i / 4) : Nat) : Int), rootV (fun q => padN (8 * n) (LiveSmall.leS fun i => nat (s.Bal i)) (i / 4 * 32 + q))] rfl rfl ((zdw _ base (T 1) _ (i / 4) _ (fun q => padN (8 * n) (LiveSmall.leS fun i => nat (s.Bal i)) (i / 4 * 32 + q)) w' (((HJ0.out.lm.below hb)).tm 1 (by omega)) (HJ0.out.st 1 (by omega)) HK1.out (by rw [HJ0.out.lim 1 (by omega)]; exact HKL1.out) (fun q => za6 (fun _ => zbq _ _) _)).mono ?_)
  rintro r w1 ⟨u1, rfl, h1, h2, h3, h4⟩
  have hJ := HJ0.out.step hb (show 1 < 5 by omega) h1 h2 h3 h4
  have HJ1 := Hd hJ
  clear hJ h1 h2 h3 h4 hb
  refine ⟨_, rfl, ?_⟩
  simp only [seqWp, Act.put, List.setIfInBounds_toArray, List.set_cons_succ, List.set_cons_zero]
  go_upto_region 3 with fail
  refine zao (l := [_, _, _, _, _, _, _, _, _, _, _, _, _, _]) (tl := []) (B := w1.heap.size) (w0 := w1) [sI (.pointer (some ⟨L, 0, none⟩)), sI (.pointer (some ⟨L, 0, none⟩)), sI (.pointer (some ⟨L, 1961, none⟩)), sI (tpV (T 4)), sI (.int .i64 ((i : Nat) : Int)), sI (.int .i64 ((i / 4 : Nat) : Int)), sI (.pointer (some ⟨L, 0, none⟩)), sI (.pointer (some ⟨L, 0, none⟩)), sI (.pointer (some ⟨L, 0, none⟩)), sI (.pointer (some ⟨L, 1092, none⟩)), sI (.slice (s.aS) (n) (s.cS)), sI (.int .i64 ((i : Nat) : Int)), sI (.int .i64 ((i / 4 : Nat) : Int)), sI (rootV (fun q => padN (8 * n) (LiveSmall.leS fun i => nat (s.Sco i)) (i / 4 * 32 + q)))] (by kernel_rfl) (by kernel_rfl) rfl lR (Below.refl _ _) ⟨?_, ?_, ?_, ?_, ?_, ?_, ?_, ?_, ?_, ?_, ?_, ?_, ?_, ?_, trivial⟩ ?_
  ·exact (zaa _ rfl (.inl rfl) rfl)
  ·exact zar _ rfl rfl (oT rfl)
  ·exact zal rfl rfl (oT rfl) (fun w => by simp [go_sem])
  ·exact zad rfl rfl (oT rfl) (fun w' hb => zch w' _ _ _ _ (((HJ1.out.lm.below hb)).ptr 4 (by omega)) Ty68)
  ·exact (zaa _ rfl (.inl rfl) rfl)
  ·exact za0 rfl rfl rfl (oT rfl) OpK.const (fun w => quo4 i (by omega) w)
  ·exact (zaa _ rfl (.inl rfl) rfl)
  ·exact zar _ rfl rfl (oT rfl)
  ·exact zal rfl rfl (oT rfl) (fun w => by simp [go_sem])
  ·exact zal rfl rfl (oT rfl) (fun w => by simp [go_sem])
  ·exact zad rfl rfl (oT rfl) (fun w' hb => PickDraw.za3 w' _ _ _ _ ((((HJ1.out.lm.below hb)).cell 1092 (by omega)).trans (congrArg some HF21.out)) Ty37)
  ·exact (zaa _ rfl (.inl rfl) rfl)
  ·exact za0 rfl rfl rfl (oT rfl) OpK.const (fun w => quo4 i (by omega) w)
  ·exact zbi zhc rfl rfl (oT rfl) (oT rfl) (fun w' hb => (zep n s.cS (i / 4) s.aS (fun i => nat (s.Sco i)) w' (HRS.out _ _ (HJ1.out.lm.below hb)) HLS.out (by omega) (by omega)).mono fun r w'' ⟨he, hw⟩ => ⟨_, he, rfl, hw⟩)
  ·intro w' hb
   simp only [fin, sI, forall_eq]
   simp only [pcX]
   refine zdm zeb #[tpV (T 4), .int .i64 (((i / 4) : Nat) : Int), rootV (fun q => padN (8 * n) (LiveSmall.leS fun i => nat (s.Sco i)) (i / 4 * 32 + q))] rfl rfl ((zdw _ base (T 4) _ (i / 4) _ (fun q => padN (8 * n) (LiveSmall.leS fun i => nat (s.Sco i)) (i / 4 * 32 + q)) w' (((HJ1.out.lm.below hb)).tm 4 (by omega)) (HJ1.out.st 4 (by omega)) HK4.out (by rw [HJ1.out.lim 4 (by omega)]; exact HKL4.out) (fun q => za6 (fun _ => zbq _ _) _)).mono ?_)
   rintro r w2 ⟨u4, rfl, h1, h2, h3, h4⟩
   have hJ := HJ1.out.step hb (show 4 < 5 by omega) h1 h2 h3 h4
   have HJ2 := Hd hJ
   clear hJ h1 h2 h3 h4 hb
   refine ⟨_, rfl, ?_⟩
   simp only [seqWp, Act.put, List.setIfInBounds_toArray, List.set_cons_succ, List.set_cons_zero]
   go_upto_region 4 with fail
   refine zao (l := [_, _, _, _, _, _, _, _, _, _, _, _, _, _]) (tl := []) (B := w2.heap.size) (w0 := w2) [sI (.pointer (some ⟨L, 0, none⟩)), sI (.pointer (some ⟨L, 0, none⟩)), sI (.pointer (some ⟨L, 1959, none⟩)), sI (tpV (T 2)), sI (.int .i64 ((i : Nat) : Int)), sI (.int .i64 ((i / 32 : Nat) : Int)), sI (.pointer (some ⟨L, 0, none⟩)), sI (.pointer (some ⟨L, 0, none⟩)), sI (.pointer (some ⟨L, 0, none⟩)), sI (.pointer (some ⟨L, 987, none⟩)), sI (.slice (s.aP) (n) (s.cP)), sI (.int .i64 ((i : Nat) : Int)), sI (.int .i64 ((i / 32 : Nat) : Int)), sI (rootV (fun q => padN n (b8 s.Prv) (i / 32 * 32 + q)))] (by kernel_rfl) (by kernel_rfl) rfl lR (Below.refl _ _) ⟨?_, ?_, ?_, ?_, ?_, ?_, ?_, ?_, ?_, ?_, ?_, ?_, ?_, ?_, trivial⟩ ?_
   ·exact (zaa _ rfl (.inl rfl) rfl)
   ·exact zar _ rfl rfl (oT rfl)
   ·exact zal rfl rfl (oT rfl) (fun w => by simp [go_sem])
   ·exact zad rfl rfl (oT rfl) (fun w' hb => zch w' _ _ _ _ (((HJ2.out.lm.below hb)).ptr 2 (by omega)) Ty68)
   ·exact (zaa _ rfl (.inl rfl) rfl)
   ·exact za0 rfl rfl rfl (oT rfl) OpK.const (fun w => quo32 i (by omega) w)
   ·exact (zaa _ rfl (.inl rfl) rfl)
   ·exact zar _ rfl rfl (oT rfl)
   ·exact zal rfl rfl (oT rfl) (fun w => by simp [go_sem])
   ·exact zal rfl rfl (oT rfl) (fun w => by simp [go_sem])
   ·exact zad rfl rfl (oT rfl) (fun w' hb => PickDraw.za3 w' _ _ _ _ ((((HJ2.out.lm.below hb)).cell 987 (by omega)).trans (congrArg some HF15.out)) Ty39)
   ·exact (zaa _ rfl (.inl rfl) rfl)
   ·exact za0 rfl rfl rfl (oT rfl) OpK.const (fun w => quo32 i (by omega) w)
   ·exact zbi zhd rfl rfl (oT rfl) (oT rfl) (fun w' hb => (zgd n s.cP (i / 32) s.aP (b8 s.Prv) w' (HRP.out _ _ (HJ2.out.lm.below hb)) HLP.out (by omega) (by omega)).mono fun r w'' ⟨he, hw⟩ => ⟨_, he, rfl, hw⟩)
   ·intro w' hb
    simp only [fin, sI, forall_eq]
    simp only [pcX]
    refine zdm zeb #[tpV (T 2), .int .i64 (((i / 32) : Nat) : Int), rootV (fun q => padN n (b8 s.Prv) (i / 32 * 32 + q))] rfl rfl ((zdw _ base (T 2) _ (i / 32) _ (fun q => padN n (b8 s.Prv) (i / 32 * 32 + q)) w' (((HJ2.out.lm.below hb)).tm 2 (by omega)) (HJ2.out.st 2 (by omega)) HK2.out (by rw [HJ2.out.lim 2 (by omega)]; exact HKL2.out) (fun q => za6 (zcz s.Prv) _)).mono ?_)
    rintro r w3 ⟨u2, rfl, h1, h2, h3, h4⟩
    have hJ := HJ2.out.step hb (show 2 < 5 by omega) h1 h2 h3 h4
    have HJ3 := Hd hJ
    clear hJ h1 h2 h3 h4 hb
    refine ⟨_, rfl, ?_⟩
    simp only [seqWp, Act.put, List.setIfInBounds_toArray, List.set_cons_succ, List.set_cons_zero]
    go_upto_region 5 with fail
    refine zao (l := [_, _, _, _, _, _, _, _, _, _, _, _, _, _]) (tl := []) (B := w3.heap.size) (w0 := w3) [sI (.pointer (some ⟨L, 0, none⟩)), sI (.pointer (some ⟨L, 0, none⟩)), sI (.pointer (some ⟨L, 1960, none⟩)), sI (tpV (T 3)), sI (.int .i64 ((i : Nat) : Int)), sI (.int .i64 ((i / 32 : Nat) : Int)), sI (.pointer (some ⟨L, 0, none⟩)), sI (.pointer (some ⟨L, 0, none⟩)), sI (.pointer (some ⟨L, 0, none⟩)), sI (.pointer (some ⟨L, 988, none⟩)), sI (.slice (s.aC) (n) (s.cC)), sI (.int .i64 ((i : Nat) : Int)), sI (.int .i64 ((i / 32 : Nat) : Int)), sI (rootV (fun q => padN n (b8 s.Cur) (i / 32 * 32 + q)))] (by kernel_rfl) (by kernel_rfl) rfl lR (Below.refl _ _) ⟨?_, ?_, ?_, ?_, ?_, ?_, ?_, ?_, ?_, ?_, ?_, ?_, ?_, ?_, trivial⟩ ?_
    ·exact (zaa _ rfl (.inl rfl) rfl)
    ·exact zar _ rfl rfl (oT rfl)
    ·exact zal rfl rfl (oT rfl) (fun w => by simp [go_sem])
    ·exact zad rfl rfl (oT rfl) (fun w' hb => zch w' _ _ _ _ (((HJ3.out.lm.below hb)).ptr 3 (by omega)) Ty68)
    ·exact (zaa _ rfl (.inl rfl) rfl)
    ·exact za0 rfl rfl rfl (oT rfl) OpK.const (fun w => quo32 i (by omega) w)
    ·exact (zaa _ rfl (.inl rfl) rfl)
    ·exact zar _ rfl rfl (oT rfl)
    ·exact zal rfl rfl (oT rfl) (fun w => by simp [go_sem])
    ·exact zal rfl rfl (oT rfl) (fun w => by simp [go_sem])
    ·exact zad rfl rfl (oT rfl) (fun w' hb => PickDraw.za3 w' _ _ _ _ ((((HJ3.out.lm.below hb)).cell 988 (by omega)).trans (congrArg some HF16.out)) Ty39)
    ·exact (zaa _ rfl (.inl rfl) rfl)
    ·exact za0 rfl rfl rfl (oT rfl) OpK.const (fun w => quo32 i (by omega) w)
    ·exact zbi zhd rfl rfl (oT rfl) (oT rfl) (fun w' hb => (zgd n s.cC (i / 32) s.aC (b8 s.Cur) w' (HRC.out _ _ (HJ3.out.lm.below hb)) HLC.out (by omega) (by omega)).mono fun r w'' ⟨he, hw⟩ => ⟨_, he, rfl, hw⟩)
    ·intro w' hb
     simp only [fin, sI, forall_eq]
     simp only [pcX]
     refine zdm zeb #[tpV (T 3), .int .i64 (((i / 32) : Nat) : Int), rootV (fun q => padN n (b8 s.Cur) (i / 32 * 32 + q))] rfl rfl ((zdw _ base (T 3) _ (i / 32) _ (fun q => padN n (b8 s.Cur) (i / 32 * 32 + q)) w' (((HJ3.out.lm.below hb)).tm 3 (by omega)) (HJ3.out.st 3 (by omega)) HK3.out (by rw [HJ3.out.lim 3 (by omega)]; exact HKL3.out) (fun q => za6 (zcz s.Cur) _)).mono ?_)
     rintro r w4 ⟨u3, rfl, h1, h2, h3, h4⟩
     have hJ := HJ3.out.step hb (show 3 < 5 by omega) h1 h2 h3 h4
     have HJ4 := Hd hJ
     clear hJ h1 h2 h3 h4 hb
     refine ⟨_, rfl, ?_⟩
     simp only [seqWp, Act.put, List.setIfInBounds_toArray, List.set_cons_succ, List.set_cons_zero]
     clear HK1
     go_end0
     exact ⟨_, rfl, HJ4.out.re (five (by rfl) (by rfl) (by rfl) (by rfl) (by rfl)) (five (by rfl) (by have h := HB.out; show setN (x 1) (i / lvG 1) (fun q => lvX s 1 (i / lvG 1 * 32 + q)) = _; unfold lvX numX bytX; simp only [h]; rfl) (by have h := HP.out; show setN (x 2) (i / lvG 2) (fun q => lvX s 2 (i / lvG 2 * 32 + q)) = _; unfold lvX numX bytX; simp only [h]; rfl) (by have h := HC.out; show setN (x 3) (i / lvG 3) (fun q => lvX s 3 (i / lvG 3 * 32 + q)) = _; unfold lvX numX bytX; simp only [h]; rfl) (by have h := HS.out; show setN (x 4) (i / lvG 4) (fun q => lvX s 4 (i / lvG 4 * 32 + q)) = _; unfold lvX numX bytX; simp only [h]; rfl))⟩
end Go.Proofs.YtomilckcgmhfcaaDoor
