/- Lemmas that the proof stands on. -/
import Derived.Test.YtomilckcgmhfcaaDoorGLit24
namespace Go.Proofs.YtomilckcgmhfcaaDoor
set_option maxRecDepth 40000
set_option maxHeartbeats 64000000
open Go.RowKit

theorem zvb (g N n c i : Nat) (a : Nat) (f : Nat → Value) (w : World) (hr : w.rowIs g 5 N f) (hin : i / 8 < n) (hnN : n ≤ N) (hi : i ≤ 9223372036854775807) (ha : a < 2 ^ (i % 8))
    (hfa : f (i / 8) = .int .u8 (a : Int)) :
    Calls Tryd.prog 97 #[.slice (some ⟨g, 0, none⟩) n c, .int .i64 i] w fun e w' => e = .returned (.tuple #[]) ∧
     w'.rowIs g 5 N (fun j => if j = i / 8 then .int .u8 ((a + 2 ^ (i % 8) : Nat) : Int) else f j) ∧ w.grownBy w' (some g) := by
 have h7 := zsu i hi
 have h8 : (((i % 8 : Nat) : Int)) < 8 := by omega
 have hc : w.cell? ⟨g, i / 8, none⟩ = some (.int .u8 (a : Int)) := by rw [hr.cell (by omega), hfa]
 have hf := hr.frozen (i / 8)
 have HO := Hd (zwp a (i % 8) (by omega) ha)
 have HR := Hd hr
 clear hr hfa ha
 go_enter Tryd.func97, Tryd.ntmps97
 go_wp2
 go_region
 go_end0
 rw [HO.out]
 exact ⟨rfl, HR.out.set _ _, zoi (zbv (World.grownBy.refl _ _) (.inl rfl) _)⟩

def laid (x : Nat → Bool) (i : Nat) : Nat → Value := fun j => .int .u8 ((byteOf x i j : Nat) : Int)
theorem zld (x : Nat → Bool) (i : Nat) (h : x i = false) : laid x (i + 1) = laid x i := by
 funext j; unfold laid; rw [ze8 x i j h]
theorem zm3 (x : Nat → Bool) (i : Nat) (h : x i = true) : (fun j => if j = i / 8 then Value.int .u8 ((byteOf x i (i / 8) + 2 ^ (i % 8) : Nat) : Int) else laid x i j) = laid x (i + 1) := by
 funext j; unfold laid
 by_cases e : j = i / 8
 ·rw [if_pos e, e, (zeq x i h).1]
 ·rw [if_neg e, zf4 x i j e]
theorem zle (x : Nat → Bool) : laid x 0 = fun _ => .int .u8 0 := by
 funext j; unfold laid; rw [ze7]; rfl

theorem zvc (g N c B n cl : Nat) (A : Option Addr) (x : Nat → Bool) (w : World) (hr : w.rowIs g 5 N (fun _ => .int .u8 0)) (hl : Rd w B A n (fun i => .bool (x i))) (hB : B ≤ g)
    (hN : n ≤ 8 * N) (hn : n ≤ 9223372036854775807) :
    Calls Tryd.prog 84 #[.slice (some ⟨g, 0, none⟩) N c, .slice A n cl] w fun e w' => e = .returned (.slice (some ⟨g, 0, none⟩) N c) ∧
     w'.rowIs g 5 N (laid x n) ∧ w.grownBy w' (some g) := by
 have hlt := hr.lt
 rw [← zle x] at hr
 go_enter Tryd.func84, Tryd.ntmps84
 go_wp2
 go_loopw [9] (fun i wr => ∃ k : Nat, k ≤ n ∧ i = .int .i64 k ∧ wr.rowIs g 5 N (laid x k) ∧ w.grownBy wr (some g)) (fun i _ => n - (intOf i).toNat)
 case atStart => exact ⟨0, Nat.zero_le _, rfl, hr, World.grownBy.refl _ _⟩
 case round =>
  obtain ⟨k, hk, rfl, hrow, hgr⟩ := hrel
  by_cases hkn : k < n
  ·obtain ⟨ad, rfl, hb, hc⟩ := (hl.grown hgr (by omega) (fun q hq => by injection hq; omega)).at_ hkn
   cases hx : x k
   ·rw [hx] at hc
    have hs := zld x k hx
    have Hrow := Hd hrow
    have Hs := Hd hs
    have Hgr := Hd hgr
    clear hs hx hrow hr hl hgr
    go_wp2_with fail
    go_roundw
    case rel => exact ⟨k + 1, by omega, by go_num, by rw [Hs.out]; exact Hrow.out, Hgr.out⟩
    case measure => simp [intOf]; omega
   ·rw [hx] at hc
    have hs := zm3 x k hx
    have ha := (zeq x k hx).2
    have hset := fun W h => zvb g N N c k (byteOf x k (k / 8)) (laid x k) W h (by omega) (by omega) (by omega) ha rfl
    have Hset := Hd hset
    have Hrow := Hd hrow
    have Hs := Hd hs
    have Hgr := Hd hgr
    clear hs hx hrow hr hl hset ha hgr
    go_wp2_with (go_at_call 97; refine (Hset.out _ Hrow.out).mono ?_; rintro e w1 ⟨rfl, hrow1, hgr1⟩)
    have hrow2 := hrow1
    rw [Hs.out] at hrow2
    go_roundw
    case rel => exact ⟨k + 1, by omega, by go_num, hrow2, zir Hgr.out hgr1⟩
    case measure => simp [intOf]; omega
  ·obtain rfl : k = n := by omega
   have Hrow := Hd hrow
   have Hgr := Hd hgr
   clear hr hl hrow hgr
   go_wp2
   go_ret
   exact ⟨rfl, Hrow.out, Hgr.out⟩

theorem zog (N : Int) (n : Nat) (hN : N = n) (hn : n ≤ 140737488355328) (W : World) : (Instr.makeSlice 39 (.int .i64 N) (.int .i64 N)).run Tryd.prog W = .ok (.slice (some ⟨W.heap.size, 0, none⟩) n n) (W.alloc (.cells (madeCells #[.int .u8 0] n) 5)) := by
 subst hN; exact run_make_row' 39 5 _ 1 Ty39 zdx rfl .i64 .i64 n (by omega) (by omega) W
def NewRow (w : World) (t : TypeId) (n : Nat) (f : Nat → Value) (e : Ending) (w' : World) : Prop :=
 ∃ g, e = .returned (.slice (some ⟨g, 0, none⟩) n n) ∧ w.heap.size ≤ g ∧ w'.rowIs g t n f ∧ Below w.heap.size w w'

theorem zo9 (B n cl : Nat) (A : Option Addr) (x : Nat → Bool) (w : World) (hl : Rd w B A n (fun i => .bool (x i))) (hB : B ≤ w.heap.size) (hn : n ≤ 140737488355328) :
 Calls Tryd.prog 63 #[.slice A n cl] w (NewRow w 5 ((n + 7) / 8) (laid x n)) := by
 have hm := zog (((n : Int) + 7) / 8) ((n + 7) / 8) (by omega) (by omega)
 have Hlay := Hd (zvc w.heap.size ((n + 7) / 8) ((n + 7) / 8) B n cl A x (w.alloc (.cells (madeCells #[.int .u8 0] ((n + 7) / 8)) 5)) (World.rowIs_made _ _ _ _) (hl.alloc hB _) hB (by omega) (by omega))
 have Hl := Hd hl
 clear hl
 go_enter Tryd.func63, Tryd.ntmps63
 go_wp2_with (go_at_call 84; refine Hlay.out.mono ?_; rintro e w1 ⟨rfl, hrow1, hgr1⟩)
 go_ret
 exact ⟨w.heap.size, rfl, Nat.le_refl _, hrow1, ((Below.refl _ w).alloc lR _).trans (zj8 hgr1 lR (by simp))⟩

structure RC (w : World) (B base g xb : Nat) (s : StV) : Prop where
 row : w.rowIs xb 49 1957 s.F
 lt : xb < B
 ok : StOk w B s
 right : RightF s
 sha : ShaPkg w
 shaB : 0 < B ∧ 1 < B
 hBb : B ≤ base
 hBg : B ≤ g
 hbw : base ≤ w.heap.size
structure RZ (w : World) (B base g : Nat) (s : StV) (n : Nat) (w' : World) : Prop where
 hash : HashIs w' base g n (stX s)
 bel : Below B w w'
theorem zm4 (s : StV) (k : Nat) {r : Nat → Nat} (hr : ∀ q, q < 32 → r q = stC s k q) : ∀ i, i < (k + 1) * 32 → catN (k * 32) (stX s) r i = stX s i := fun i hi => by
 unfold catN
 by_cases h : i < k * 32
 ·rw [if_pos h]
 ·rw [if_neg h, hr _ (by omega)]
  unfold stX
  rw [show i / 32 = k by omega, show i % 32 = i - k * 32 by omega]
section
variable {w w1 w2 : World} {B base g xb n : Nat} {s : StV}
theorem RC.hBw (c : RC w B base g xb s) : B ≤ w.heap.size := lT c.hBb c.hbw
theorem RC.cell (c : RC w B base g xb s) (hb : Below B w w1) (i : Nat) (hi : i < 1957) : w1.cell? ⟨xb, i, none⟩ = some (s.F i) := (zaj c.row hb c.lt).cell hi
theorem RC.ok' (c : RC w B base g xb s) (hb : Below B w w1) : StOk w1 B s := c.ok.below hb
theorem RC.sha' (c : RC w B base g xb s) (hb : Below B w w1) : ShaPkg w1 := c.sha.belowB c.shaB hb
theorem RC.rd (c : RC w B base g xb s) (hb : Below B w w1) (o n : Nat) (f : Nat → Value) (ho : o + n ≤ 1957) (hf : ∀ i, i < n → s.F (o + i) = f i) : Rd w1 w1.heap.size (some ⟨xb, o, none⟩) n f :=
 Rd.of_part (zaj c.row hb c.lt) ho hf
theorem RZ.loc (h : RZ w B base g s n w1) (c : RC w B base g xb s) (hb : Below w1.heap.size w1 w2) : RZ w B base g s n w2 := ⟨h.hash.all hb, thnB h.bel hb (lT c.hBw h.bel.size)⟩
theorem RZ.put (c : RC w B base g xb s) (h : RZ w B base g s n w1) (hn : n ≤ 100) (r : Nat → Nat) (hr : ∀ q, q < 32 → r q = stC s n q) :
 Calls Tryd.prog 53 #[.pointer (some ⟨g, 0, none⟩), rootV r, .int .i64 0] w1 fun e w' => e = .returned (.tuple #[]) ∧ RZ w B base g s (n + 1) w' :=
 (zdj B base g n (stX s) r w1 h.hash c.hBb c.hBg (lT c.hbw h.bel.size) (by omega)).mono fun e w' ⟨he, h1, h2⟩ => ⟨he, h1.congr (zm4 s n hr), h.bel.trans h2⟩
theorem RZ.u64 (c : RC w B base g xb s) (h : RZ w B base g s n w1) (hn : n ≤ 100) (v : Nat) (hr : ∀ q, q < 32 → padN 8 (leB v) q = stC s n q) :
 Calls Tryd.prog 54 #[.pointer (some ⟨g, 0, none⟩), .int .u64 (v : Int)] w1 fun e w' => e = .returned (.tuple #[]) ∧ RZ w B base g s (n + 1) w' :=
 (zda B base g n v (stX s) w1 h.hash c.hBb c.hBg (lT c.hbw h.bel.size) (by omega)).mono fun e w' ⟨he, h1, h2⟩ => ⟨he, h1.congr (zm4 s n hr), h.bel.trans h2⟩
theorem RZ.bytes (c : RC w B base g xb s) (h : RZ w B base g s n w1) (hn : n ≤ 100) (m cb : Nat) (Ab : Option Addr) (y : Nat → Nat) (hy : Rd w1 w1.heap.size Ab m (u8v y)) (hyl : ∀ i, y i < 256) (hmc : m ≤ cb) (hm1 : 1 ≤ m) (hm : m ≤ 1099511627776) (hr : ∀ q, q < 32 → treeN (dep (nch m)) (nch m) (padN m y) q = stC s n q) :
 Calls Tryd.prog 56 #[.pointer (some ⟨g, 0, none⟩), .slice Ab m cb] w1 fun e w' => e = .returned (.tuple #[]) ∧ RZ w B base g s (n + 1) w' :=
 (zd0 B base g n (stX s) w1 h.hash c.hBb c.hBg (lT c.hbw h.bel.size) (by omega) m cb Ab y hy hyl hmc hm1 hm (c.sha' h.bel) c.shaB).mono fun e w' ⟨he, h1, h2⟩ => ⟨he, h1.congr (zm4 s n hr), h.bel.trans h2⟩
end
structure LH (wa : World) (g : Nat) (X : Nat → Nat) (j : Nat) (w' : World) : Prop where
 hash : HashIs w' wa.heap.size g j X
 bel : Below wa.heap.size wa w'
 ge : wa.heap.size ≤ g
section
variable {wa w1 w2 : World} {g j : Nat} {X : Nat → Nat}
theorem LH.start (hr : w1.rowIs g 90 2 (hashF none 0 0)) (hb : Below wa.heap.size wa w1) (hg : wa.heap.size ≤ g) (X : Nat → Nat) : LH wa g X 0 w1 := ⟨⟨none, 0, hr, OwnZ.nil w1 _ _ _ _, fun ad e => by cases e⟩, hb, hg⟩
theorem LH.loc (h : LH wa g X j w1) (hb : Below w1.heap.size w1 w2) : LH wa g X j w2 := ⟨h.hash.all hb, thnB h.bel hb h.bel.size, h.ge⟩
theorem LH.put (h : LH wa g X j w1) (hj : j ≤ 1000000) (r : Nat → Nat) (hr : ∀ q, q < 32 → r q = X (j * 32 + q)) :
 Calls Tryd.prog 53 #[.pointer (some ⟨g, 0, none⟩), rootV r, .int .i64 0] w1 fun e w' => e = .returned (.tuple #[]) ∧ LH wa g X (j + 1) w' :=
 (zdj wa.heap.size wa.heap.size g j X r w1 h.hash lR h.ge h.bel.size (by omega)).mono fun e w' ⟨he, h1, h2⟩ => ⟨he, h1.congr (fun i hi => by
  unfold catN
  by_cases h : i < j * 32
  ·rw [if_pos h]
  ·rw [if_neg h, hr _ (by omega)]; exact congrArg X (by omega)), h.bel.trans h2, h.ge⟩
theorem LH.done (h : LH wa g X j w1) (hp : ShaPkg wa) (hX : ∀ i, X i < 256) (h1 : 1 ≤ j) (hj : j ≤ 1000000) :
 Calls Tryd.prog 40 #[.pointer (some ⟨g, 0, none⟩)] w1 fun e w' => e = .returned (.tuple #[rootV (treeN (dep j) j X), .int .i64 0]) ∧ Below wa.heap.size wa w' :=
 (zc2 wa.heap.size wa.heap.size g j X w1 h.hash hX lR h.ge h.bel.size h1 (by omega) (hp.below h.bel) hp.lt).mono fun e w' ⟨he, h2⟩ => ⟨he, h.bel.trans h2⟩
end
theorem zjj (X : Nat → Nat) (k : Nat) (r : Nat → Nat) (hr : ∀ q, q < 32 → r q = X (k * 32 + q)) : ∀ i, i < (k + 1) * 32 → catF (k * 32) (u8v X) (u8v r) i = u8v X i := fun i hi => by
 unfold catF
 by_cases h : i < k * 32
 ·rw [if_pos h]
 ·rw [if_neg h]
  simp only [u8v]
  rw [hr _ (by omega), show k * 32 + (i - k * 32) = i by omega]
namespace StRoots
theorem zs3 (x : Nat → Nat) (k : Nat) : ∀ i, i < (8 * (k + 1)) * 1 → catF (8 * k * 1) (u8v (LiveSmall.leS x)) (u8v (leB (x k))) i = u8v (LiveSmall.leS x) i := fun i hi => by
 unfold catF
 by_cases h : i < 8 * k * 1
 ·rw [if_pos h]
 ·rw [if_neg h]
  simp only [u8v]
  unfold LiveSmall.leS
  rw [show i / 8 = k by omega, show i % 8 = i - 8 * k * 1 by omega]
end StRoots
open StRoots in
theorem zf6 (n c lim : Nat) (A : Option Addr) (x : Nat → Nat) (w : World) (hb : Rd w w.heap.size A n (u64v x)) (_hnc : n ≤ c) (hn : n ≤ 1099511627) (hl : lim ≤ 1099511627) (hln : n ≤ lim) (hp : ShaPkg w) :
 Calls Tryd.prog 61 #[.slice A n c, .int .i64 (lim : Int)] w fun e w' => e = .returned (.tuple #[rootV (treeN (dep ((lim + 3) / 4)) (nch (8 * n)) (padN (8 * n) (LiveSmall.leS x))), .int .i64 0]) ∧ Below w.heap.size w w' := by
 have HR := Hd hb
 have HP := Hd hp
 have HS0 := Hd (HS.nil w)
 clear hb hp
 go_enter Tryd.func61, Tryd.ntmps61
 go_wp2_with (first
  | ((with_reducible refine at_l ?_); refine zac rfl 24 4 rfl rfl HS0.out _ z24 32 (u8v fun _ => 0) n24 f24 ?_; intro b4 w4 hb4 hc4 hs; have HS4 := Hd hs; clear hs))
 have hl4 : b4 < w4.heap.size := HS4.out.lt 0 rfl
 go_loopw [6, 12] (fun u i wr => ∃ (k : Nat) (A' : Option Addr) (c' : Nat), u = .slice A' (8 * k) c' ∧ i = .int .i64 (k : Int) ∧ k ≤ n ∧ OwnZ wr w4.heap.size 5 1 A' (8 * k) c' (u8v (LiveSmall.leS x)) ∧ Below w4.heap.size w4 wr) (fun _ i _ => n - (intOf i).toNat)
 case atStart => exact ⟨0, none, 0, rfl, rfl, Nat.zero_le _, OwnZ.nil _ _ _ _ _, Below.refl _ _⟩
 case round =>
  obtain ⟨k, A', c', rfl, rfl, hk, ho, hb⟩ := hrel
  have HO := Hd ho
  have HB := Hd hb
  have hsz := hb.size
  clear ho hb
  by_cases h1 : k < n
  ·obtain ⟨bA, hA⟩ : ∃ bA, A = some bA := by obtain ⟨ad, e, _⟩ := HR.out (by omega); exact ⟨ad, e⟩
   subst hA
   have HC := Hd ((HR.out.below (thnB (HS4.out.out (by simp; omega)) HB.out HS4.out.size)).cell_' rfl h1)
   go_wp2_with (first
    | ((with_reducible refine at_l ?_); first
     | (refine zab rfl 14 rfl (.pointer (some (bA.add (k * 1)))) ?_ ?_; (· exact zbb rfl rfl rfl (fun w => zaw (z := 1) w Ty37 (by kernel_rfl) bA h1) _))
     | (refine zab rfl 15 rfl (.int .u64 (x k : Int)) ?_ ?_; (· exact zbf .u64 rfl rfl Ty22 (by rw [Nat.mul_one]; exact HC.out)))
     | (refine zac rfl 108 9 rfl rfl (HS.nil w6) (Array.replicate 8 (.int .u8 0)) (by kernel_rfl) 8 (u8v fun _ => 0) (by rfl) (zbg 8 (.int .u8 0)) ?_; intro b9 w7 hb9 hc9 hs; have HS7 := Hd hs; clear hs)
     | (refine zaf rfl 108 (.tmp 9) (.tmp 17) rfl HS7.out 0 rfl (u8v (leB (x k))) rfl rfl (by kernel_rfl) (fun _ _ => rfl) ?_; intro w8 hs; have HS8 := Hd hs; have HL8 := Hd (hs.out (by simp; omega)); clear hs))
    | (go_at_call 55; refine (zet (x k) _).mono ?_; rintro e w6 ⟨rfl, hb⟩; have HB6 := Hd (thnB HB.out hb hsz); have HL6 := Hd hb; clear hb)
    | (at_builtin; refine zba _ (.tmp 18) (.tmp 19) 39 w4.heap.size (e := 5) (z := .int .u8 0) (k := 1) (bytes := 1) (by kernel_rfl) Ty39 (by rfl) (by omega) rfl rfl (8 * (k + 1)) (u8v (LiveSmall.leS x)) rfl rfl ((HO.out.all HL6.out).all HL8.out) (Rd.of_row (n := 8 * 1) (HS8.out.row 0 rfl) lR (HS8.out.lt 0 rfl)) (fun _ _ => rfl) rfl (zs3 x k) ⟨by omega, by omega⟩ (lT HB6.out.size HL8.out.size) ?_; intro A2 c2 w9 ho9 hg9 ha9; have HO9 := Hd ho9; have HG9 := Hd hg9; clear ho9 hg9 ha9))
   go_roundw
   case rel => exact ⟨k + 1, A2, c2, rfl, by go_num, by omega, HO9.out, za4 (thnB HB6.out HL8.out HB6.out.size) HG9.out (lT HB6.out.size HL8.out.size) (fun ad e => (HO.out.base_le ad e).1)⟩
   case measure => simp [intOf]; omega
  ·obtain rfl : n = k := by omega
   have HVR := Hd HO.out.rd
   have hcap := HO.out.cap
   have HSq := Hd (HS4.out.below HB.out)
   go_wp2_with (first
    | (go_at_call 62; refine (zgc (8 * n) c' A' (LiveSmall.leS x) _ (HVR.out.short (by omega)) hcap (by omega)).mono ?_; rintro e w6 ⟨A2, c2, rfl, ho, hb⟩; have HO6 := Hd ho; have HS6 := Hd (HSq.out.below hb); clear ho hb)
    | ((with_reducible refine at_l ?_); first
     | (refine zab rfl 25 rfl (.int .i64 ((lim + 3 : Nat) : Int)) ?_ ?_; (· exact za1 rfl rfl rfl rfl (fun w => by simp [go_sem, IntKind.wrap, IntKind.bits, IntKind.signed]; omega) _))
     | (refine zab rfl 26 rfl (.int .i64 (((lim + 3) / 4 : Nat) : Int)) ?_ ?_; (· exact za1 rfl rfl rfl rfl (fun w => by simp [go_sem, IntKind.wrap, IntKind.bits, IntKind.signed]; omega) _))
     | (refine zaf rfl 24 (.tmp 4) (.tmp 28) rfl HS7.out 0 rfl (u8v (treeN (dep ((lim + 3) / 4)) (nch (8 * n)) (padN (8 * n) (LiveSmall.leS x)))) rfl rfl (by kernel_rfl) (fun _ _ => rfl) ?_; intro wy hs; have HY := Hd hs; clear hs))
    | (go_at_call 25; have hc6 := HO6.out.cap; refine (zd8 (nch (8 * n)) c2 A2 (padN (8 * n) (LiveSmall.leS x)) ((lim + 3) / 4) _ HO6.out.rd (za6 fun _ => zbq _ _) hc6 (by omega) (by unfold nch; omega) (HP.out.below (HS6.out.out (by simp; omega)))).mono ?_; rintro e w7 ⟨rfl, hb⟩; have HS7 := Hd (HS6.out.below hb); clear hb))
   exact zb4 rfl (HY.out.row 0 rfl) _ (.int .i64 0) rfl rfl Ty24 rfl s24 rfl ⟨rfl, HY.out.out (by simp; omega)⟩
namespace StRoot1
end StRoot1

theorem znn (w w0 : World) (B base g xb : Nat) (s : StV) (hc : RC w B base g xb s) (hz : RZ w B base g s 0 w0) :
 Calls Tryd.prog 37 #[.pointer (some ⟨g, 0, none⟩), .pointer (some ⟨xb, 0, none⟩)] w0 fun e w' => e = .returned (.tuple #[]) ∧ RZ w B base g s 10 w' := by
 have HC := Hd hc
 have HZ0 := Hd hz
 have tk1 : Tok 1 := Tok.mk 1
 have HB1 := Hd (zd7 HC.out.ok.sc 1 32 (by kernel_rfl))
 have tk2 : Tok 2 := Tok.mk 2
 have tk3 : Tok 3 := Tok.mk 3
 have HC34 := Hd (HC.out.ok.sc.at_ 34 9 28 (by kernel_rfl) (zbl (n := 9) Ty28 (by kernel_rfl)))
 have tk4 : Tok 4 := Tok.mk 4
 have tk5 : Tok 5 := Tok.mk 5
 have HC43 := Hd (HC.out.ok.sc.at_ 43 98 30 (by kernel_rfl) (zbl (n := 98) Ty30 (by kernel_rfl)))
 have tk6 : Tok 6 := Tok.mk 6
 have tk7 : Tok 7 := Tok.mk 7
 have HB141 := Hd (zd7 HC.out.ok.sc 141 (8 * 32) (by kernel_rfl))
 have tk8 : Tok 8 := Tok.mk 8
 have tk9 : Tok 9 := Tok.mk 9
 have HB397 := Hd (zd7 HC.out.ok.sc 397 (8 * 32) (by kernel_rfl))
 have tk10 : Tok 10 := Tok.mk 10
 have tk11 : Tok 11 := Tok.mk 11
 have hnH : s.nH ≤ 1024 := HC.out.right.nH
 have hnE : s.nE ≤ 8 := HC.out.right.nE
 have tk12 : Tok 12 := Tok.mk 12
 have tk13 : Tok 13 := Tok.mk 13
 have tk14 : Tok 14 := Tok.mk 14
 have tk15 : Tok 15 := Tok.mk 15
 have HC654 := Hd (HC.out.ok.sc.at_ 654 65 34 (by kernel_rfl) (zbl (n := 65) Ty34 (by kernel_rfl)))
 have tk16 : Tok 16 := Tok.mk 16
 have tk17 : Tok 17 := Tok.mk 17
 have tk18 : Tok 18 := Tok.mk 18
 have tk19 : Tok 19 := Tok.mk 19
 have tk20 : Tok 20 := Tok.mk 20
 have tk21 : Tok 21 := Tok.mk 21
 clear hc hz
 go_enter Tryd.func37, Tryd.ntmps37
 go_wp2_with (first
  | ((with_reducible refine at_l ?_); first
   | (refine zab rfl 26 rfl (.int .u64 ((nat (s.F 0) : Nat) : Int)) ?_ ?_; (· exact zbf .u64 rfl rfl Ty22 ((HC.out.cell HZ0.out.bel 0 (by omega)).trans (congrArg some (HC.out.ok.sc.u64 0 (by kernel_rfl)).1))))
   | (refine zag rfl 24 (.tmp 31) rfl xb 1 32 (u8v (byF s.F 1)) rfl _ (fun i hi => (HC.out.cell HZ1.out.bel (1 + i) (by omega)).trans (congrArg some (HB1.out i hi))) Ty24 rfl s24 _ rfl ?_)
   | (refine zab rfl 38 rfl (.int .u64 ((nat (s.F 33) : Nat) : Int)) ?_ ?_; (· exact zbf .u64 rfl rfl Ty22 ((HC.out.cell HZ2.out.bel 33 (by omega)).trans (congrArg some (HC.out.ok.sc.u64 33 (by kernel_rfl)).1))))
   | (refine zag rfl 28 (.tmp 43) rfl xb 34 9 (at_ s.F 34) rfl _ (fun i hi => HC.out.cell HZ3.out.bel (34 + i) (by omega)) Ty28 rfl (by kernel_rfl) _ rfl ?_)
   | (refine zag rfl 30 (.tmp 50) rfl xb 43 98 (at_ s.F 43) rfl _ (fun i hi => HC.out.cell HZ5.out.bel (43 + i) (by omega)) Ty30 rfl (by kernel_rfl) _ rfl ?_)
   | (refine zac rfl 90 4 rfl rfl (HS.nil w7) _ zcp 2 (hashF none 0 0) (zam _ _) (fun i hi => zaq _ _ i hi) ?_; intro b4 w8 hb4 hc4 hs; have HL4 := Hd (LH.start (hs.row 0 rfl) (hs.out (by simp; omega)) hb4 (byF s.F 141)); have HZ8 := Hd (HZ7.out.loc HC.out (hs.out (by simp; omega))); clear hs)
   | (refine zag rfl 31 (.tmp 56) rfl xb 141 256 (u8v (byF s.F 141)) rfl _ (fun i hi => (HC.out.cell HZ8.out.bel (141 + i) (by omega)).trans (congrArg some (HB141.out i hi))) Ty31 rfl (by kernel_rfl) _ rfl ?_))
  | (go_at_call 54; clear tk1; refine (RZ.u64 HC.out HZ0.out (by omega) (nat (s.F 0)) (fun _ _ => rfl)).mono ?_; rintro e w1 ⟨rfl, hz⟩; have HZ1 := Hd hz; clear hz)
  | (go_at_call 53; clear tk2; refine (RZ.put HC.out HZ1.out (by omega) (byF s.F 1) (fun _ _ => rfl)).mono ?_; rintro e w2 ⟨rfl, hz⟩; have HZ2 := Hd hz; clear hz)
  | (go_at_call 54; clear tk3; refine (RZ.u64 HC.out HZ2.out (by omega) (nat (s.F 33)) (fun _ _ => rfl)).mono ?_; rintro e w3 ⟨rfl, hz⟩; have HZ3 := Hd hz; clear hz)
  | (go_at_call 28; clear tk4; refine (zk8 (at_ s.F 34) HC34.out _ (HC.out.sha' HZ3.out.bel)).mono ?_; rintro e w4 ⟨rfl, hb⟩; have HZ4 := Hd (HZ3.out.loc HC.out hb); clear hb)
  | (go_at_call 53; clear tk5; refine (RZ.put HC.out HZ4.out (by omega) (forkN (at_ s.F 34)) (fun _ _ => rfl)).mono ?_; rintro e w5 ⟨rfl, hz⟩; have HZ5 := Hd hz; clear hz)
  | (go_at_call 29; clear tk6; refine (ziu (at_ s.F 43) HC43.out _ (HC.out.sha' HZ5.out.bel)).mono ?_; rintro e w6 ⟨rfl, hb⟩; have HZ6 := Hd (HZ5.out.loc HC.out hb); clear hb)
  | (go_at_call 53; clear tk7; refine (RZ.put HC.out HZ6.out (by omega) (headerN (at_ s.F 43)) (fun _ _ => rfl)).mono ?_; rintro e w7 ⟨rfl, hz⟩; have HZ7 := Hd hz; clear hz))
 go_loopw [58] (fun i wr => ∃ j : Nat, i = .int .i64 (j : Int) ∧ j ≤ 8 ∧ LH w7 b4 (byF s.F 141) j wr) (fun i _ => 8 - (intOf i).toNat)
 case atStart => exact ⟨0, rfl, by omega, HL4.out⟩
 case round =>
  clear HL4
  obtain ⟨j, rfl, hj, hl⟩ := hrel
  have HL := Hd hl
  clear hl
  by_cases hj8 : j < 8
  ·go_wp2_with (first
    | ((with_reducible refine at_l ?_); first
     | (refine zab rfl 60 rfl (rootV (fun q => byF s.F 141 (j * 32 + q))) ?_ ?_; (· exact zdb rfl rfl rfl (fun w => zea w Ty31 (by kernel_rfl) Ty24 rfl (u8v (byF s.F 141)) j hj8 (by omega)) _))
     | (refine zae rfl 24 (.tmp 6) rfl 32 _ Ty24 rfl s24 ⟨wr.heap.size, 0, none⟩ rfl (u8v (fun q => byF s.F 141 (j * 32 + q))) (fun q hq => by rw [zai]; exact HR7.out.cell hq) ?_))
    | (refine zbk rfl rfl 24 24 6 (.tmp 60) rfl rfl rfl 32 (Array.replicate 32 (.int .u8 0)) (by kernel_rfl) (by rfl) (arr 32 (u8v (fun q => byF s.F 141 (j * 32 + q)))) rfl rfl (zam _ _) (by kernel_rfl) (fun q hq => ⟨_, zaq _ _ _ hq, rfl⟩) (u8v (fun q => byF s.F 141 (j * 32 + q))) (fun q hq => zaq _ _ _ hq) ?_; intro w7 hr7 hb7; have HR7 := Hd hr7; have HL7 := Hd (HL.out.loc hb7); clear hr7 hb7; simp only [pcX])
    | (go_at_call 53; refine (LH.put HL7.out (by omega) (fun q => byF s.F 141 (j * 32 + q)) (fun _ _ => rfl)).mono ?_; rintro e w8 ⟨rfl, hl⟩; have HL8 := Hd hl; clear hl))
   go_roundw
   case rel => exact ⟨j + 1, by go_num, by omega, HL8.out⟩
   case measure => simp [intOf]; omega
  ·obtain rfl : j = 8 := by omega
   go_wp2_with (first
    | (go_at_call 40; clear tk8; refine (LH.done HL.out (HC.out.sha' HZ7.out.bel) (zbm _ _) (by omega) (by omega)).mono ?_; rintro e w9 ⟨rfl, hb⟩; have HZ9 := Hd (HZ7.out.loc HC.out hb); clear hb)
    | (go_at_call 53; clear tk9; refine (RZ.put HC.out HZ9.out (by omega) (treeN (dep 8) 8 (byF s.F 141)) (fun _ _ => rfl)).mono ?_; rintro e w10 ⟨rfl, hz⟩; have HZ10 := Hd hz; clear hz)
    | ((with_reducible refine at_l ?_); first
     | (refine zac rfl 90 7 rfl rfl (HS.nil w10) _ zcp 2 (hashF none 0 0) (zam _ _) (fun i hi => zaq _ _ i hi) ?_; intro b7 w11 hb7 hc7 hs; have HL7 := Hd (LH.start (hs.row 0 rfl) (hs.out (by simp; omega)) hb7 (byF s.F 397)); have HZ11 := Hd (HZ10.out.loc HC.out (hs.out (by simp; omega))); clear hs)
     | (refine zag rfl 31 (.tmp 71) rfl xb 397 256 (u8v (byF s.F 397)) rfl _ (fun i hi => (HC.out.cell HZ11.out.bel (397 + i) (by omega)).trans (congrArg some (HB397.out i hi))) Ty31 rfl (by kernel_rfl) _ rfl ?_)))
   go_loopw [73] (fun i wr => ∃ j : Nat, i = .int .i64 (j : Int) ∧ j ≤ 8 ∧ LH w10 b7 (byF s.F 397) j wr) (fun i _ => 8 - (intOf i).toNat)
   case atStart => exact ⟨0, rfl, by omega, HL7.out⟩
   case round =>
    clear HL7
    obtain ⟨j, rfl, hj, hl⟩ := hrel
    have HL := Hd hl
    clear hl
    by_cases hj8 : j < 8
    ·go_wp2_with (first
      | ((with_reducible refine at_l ?_); first
       | (refine zab rfl 75 rfl (rootV (fun q => byF s.F 397 (j * 32 + q))) ?_ ?_; (· exact zdb rfl rfl rfl (fun w => zea w Ty31 (by kernel_rfl) Ty24 rfl (u8v (byF s.F 397)) j hj8 (by omega)) _))
       | (refine zae rfl 24 (.tmp 9) rfl 32 _ Ty24 rfl s24 ⟨wr.heap.size, 0, none⟩ rfl (u8v (fun q => byF s.F 397 (j * 32 + q))) (fun q hq => by rw [zai]; exact HR7.out.cell hq) ?_))
      | (refine zbk rfl rfl 24 24 9 (.tmp 75) rfl rfl rfl 32 (Array.replicate 32 (.int .u8 0)) (by kernel_rfl) (by rfl) (arr 32 (u8v (fun q => byF s.F 397 (j * 32 + q)))) rfl rfl (zam _ _) (by kernel_rfl) (fun q hq => ⟨_, zaq _ _ _ hq, rfl⟩) (u8v (fun q => byF s.F 397 (j * 32 + q))) (fun q hq => zaq _ _ _ hq) ?_; intro w7 hr7 hb7; have HR7 := Hd hr7; have HL7 := Hd (HL.out.loc hb7); clear hr7 hb7; simp only [pcX])
      | (go_at_call 53; refine (LH.put HL7.out (by omega) (fun q => byF s.F 397 (j * 32 + q)) (fun _ _ => rfl)).mono ?_; rintro e w8 ⟨rfl, hl⟩; have HL8 := Hd hl; clear hl))
     go_roundw
     case rel => exact ⟨j + 1, by go_num, by omega, HL8.out⟩
     case measure => simp [intOf]; omega
    ·obtain rfl : j = 8 := by omega
     go_wp2_with (first
      | (go_at_call 40; clear tk10; refine (LH.done HL.out (HC.out.sha' HZ10.out.bel) (zbm _ _) (by omega) (by omega)).mono ?_; rintro e w12 ⟨rfl, hb⟩; have HZ12 := Hd (HZ10.out.loc HC.out hb); clear hb)
      | (go_at_call 53; clear tk11; refine (RZ.put HC.out HZ12.out (by omega) (treeN (dep 8) 8 (byF s.F 397)) (fun _ _ => rfl)).mono ?_; rintro e w13 ⟨rfl, hz⟩; have HZ13 := Hd hz; clear hz)
      | ((with_reducible refine at_l ?_); refine zab rfl 87 rfl (.slice s.aH s.nH s.cH) ?_ ?_; (· exact zan rfl rfl Ty32 (HC.out.cell HZ13.out.bel 653 (by omega)) HC.out.ok.f7)))
     go_loopw [10, 89] (fun u i wr => ∃ (k : Nat) (A : Option Addr) (c : Nat), u = .slice A k c ∧ i = .int .i64 (k : Int) ∧ k ≤ s.nH ∧ OwnZ wr w13.heap.size 24 32 A k c (u8v (b8 s.His)) ∧ Below w13.heap.size w13 wr) (fun _ i _ => s.nH - (intOf i).toNat)
     case atStart => exact ⟨0, none, 0, rfl, rfl, Nat.zero_le _, OwnZ.nil _ _ _ _ _, Below.refl _ _⟩
     case round =>
      obtain ⟨k, A, c, rfl, rfl, hk, ho, hb⟩ := hrel
      have HO := Hd ho
      have HB := Hd hb
      have hsz := hb.size
      clear ho hb
      by_cases h1 : k < s.nH
      ·obtain ⟨ad, hA, _, _⟩ := (HC.out.ok.rH : Rd w B s.aH (s.nH * 32) s.His) (by omega)
       have HCE := Hd (show ∀ q, q < 32 → wr.cell? ((ad.add (k * 32)).add q) = some ((u8v (fun q => (b8 s.His) (k * 32 + q))) q) from fun q hq => by
        have h := (HC.out.ok' (thnB HZ13.out.bel HB.out (lT HC.out.hBw HZ13.out.bel.size))).rH.cell_' hA (k := k * 32 + q) (by omega)
        rw [zb1, h, zob HC.out.ok.scH (by omega)])
       rw [hA]
       clear hA
       go_wp2_with (first
        | ((with_reducible refine at_l ?_); first
         | (refine zab rfl 91 rfl (.pointer (some (ad.add (k * 32)))) ?_ ?_; (· exact zbb rfl rfl rfl (fun w => zaw (z := 32) w Ty32 (by kernel_rfl) ad h1) _))
         | (refine zae rfl 24 (.tmp 91) rfl 32 _ Ty24 rfl s24 (ad.add (k * 32)) rfl (u8v (fun q => (b8 s.His) (k * 32 + q))) HCE.out ?_)
         | (refine zae rfl 24 (.tmp 13) rfl 32 _ Ty24 rfl s24 ⟨wr.heap.size, 0, none⟩ rfl (u8v (fun q => (b8 s.His) (k * 32 + q))) (fun q hq => by rw [zai]; exact HR6.out.cell hq) ?_)
         | (refine zbu rfl Ty32 s24 (by omega) (by omega) z24 _ rfl (u8v (fun q => (b8 s.His) (k * 32 + q))) rfl (HS.nil _) ?_; intro bS w8 hbS hcS hs; have HS8 := Hd hs; have HB8 := Hd (thnB HB6.out (hs.out (by simp; omega)) HB6.out.size); clear hs))
        | (refine zbk rfl rfl 24 24 13 (.tmp 92) rfl rfl rfl 32 (zeroOf Tryd.prog 24) (by kernel_rfl) (by kernel_rfl) (arr 32 (u8v (fun q => (b8 s.His) (k * 32 + q)))) rfl rfl (zam _ _) (by kernel_rfl) (fun q hq => ⟨_, zaq _ _ _ hq, rfl⟩) (u8v (fun q => (b8 s.His) (k * 32 + q))) (fun q hq => zaq _ _ _ hq) ?_; intro w6 hr6 hb6; have HR6 := Hd hr6; have HB6 := Hd hb6; clear hr6 hb6; simp only [pcX])
        | (at_builtin; refine zba _ (.tmp 93) (.tmp 95) 32 w13.heap.size i24 Ty32 (by rfl) (by omega) rfl rfl (k + 1) (u8v (b8 s.His)) rfl rfl (HO.out.all HB8.out) (Rd.of_row (n := 1 * 32) (HS8.out.row 0 rfl) lR (HS8.out.lt 0 rfl)) (fun _ _ => rfl) rfl (zjj (b8 s.His) k (fun q => (b8 s.His) (k * 32 + q)) (fun _ _ => rfl)) ⟨by omega, by omega⟩ (lT hsz HB8.out.size) ?_; intro A' c' w9 ho9 hg9 ha9; have HO9 := Hd ho9; have HG9 := Hd hg9; clear ho9 hg9 ha9))
       go_roundw
       case rel => exact ⟨k + 1, A', c', rfl, by go_num, by omega, HO9.out, za4 (thnB HB.out HB8.out hsz) HG9.out (lT hsz HB8.out.size) (fun ad e => (HO.out.base_le ad e).1)⟩
       case measure => simp [intOf]; omega
      ·obtain rfl : s.nH = k := by omega
       have HVR := Hd HO.out.rd
       have hcap := HO.out.cap
       obtain ⟨w14, hw14⟩ : ∃ w14 : World, w14 = wr := ⟨_, rfl⟩
       subst hw14
       have HZ14 := Hd (HZ13.out.loc HC.out HB.out)
       clear HO HB h1 hsz
       obtain ⟨XH, hXH⟩ : ∃ X, X = treeN (dep 1024) s.nH (b8 s.His) := ⟨_, rfl⟩
       have HXH := Hd hXH
       have HXlH : Hid (∀ i, XH i < 256) := Hd (by rw [hXH]; exact za9 (zcz _) _ _)
       clear hXH
       go_wp2_with (first
        | (go_at_call 25; clear tk12; refine (zd8 s.nH c A (b8 s.His) 1024 _ HVR.out (zcz _) hcap (by omega) hnH (HC.out.sha' HZ14.out.bel)).mono ?_; rintro e w15 ⟨rfl, hb⟩; rw [← HXH.out]; have HZ15 := Hd (HZ14.out.loc HC.out hb); clear hb)
        | (clear tk13; refine zbk rfl rfl 24 24 14 (.tmp 104) rfl rfl rfl 32 (Array.replicate 32 (.int .u8 0)) (by kernel_rfl) (by rfl) (arr 32 (u8v XH)) rfl rfl (zam _ _) (by kernel_rfl) (fun q hq => ⟨_, zaq _ _ _ hq, rfl⟩) (u8v XH) (fun q hq => zaq _ _ _ hq) ?_; intro w16 hr hb; have HQ16 := Hd hr; have HZ16 := Hd (HZ15.out.loc HC.out hb); clear hr hb; simp only [pcX])
        | ((with_reducible refine at_l ?_); first
         | (refine zae rfl 24 (.tmp 14) rfl 32 _ Ty24 rfl s24 ⟨w15.heap.size, 0, none⟩ rfl (u8v XH) (fun q hq => by rw [zai]; exact HQ16.out.cell hq) ?_)
         | (refine zab rfl 110 rfl (.int .u64 (s.nH : Int)) ?_ ?_; (· exact zdc rfl rfl (fun w => by simp [go_sem, IntKind.wrap, IntKind.bits, IntKind.signed]; omega) _))
         | (refine zag rfl 34 (.tmp 117) rfl xb 654 65 (at_ s.F 654) rfl _ (fun i hi => HC.out.cell HZ18.out.bel (654 + i) (by omega)) Ty34 rfl (by kernel_rfl) _ rfl ?_)
         | (refine zab rfl 124 rfl (.slice s.aE s.nE s.cE) ?_ ?_; (· exact zan rfl rfl Ty35 (HC.out.cell HZ20.out.bel 719 (by omega)) HC.out.ok.f9)))
        | (go_at_call 31; clear tk14; refine (zdk XH HXlH.out s.nH _ (HC.out.sha' HZ16.out.bel)).mono ?_; rintro e w17 ⟨rfl, hb⟩; have HZ17 := Hd (HZ16.out.loc HC.out hb); clear hb)
        | (go_at_call 53; clear tk15; refine (RZ.put HC.out HZ17.out (by omega) (lmixN XH s.nH) (fun q _ => by rw [HXH.out]; rfl)).mono ?_; rintro e w18 ⟨rfl, hz⟩; have HZ18 := Hd hz; clear hz)
        | (go_at_call 26; clear tk16; refine (zge (at_ s.F 654) HC654.out _ (HC.out.sha' HZ18.out.bel)).mono ?_; rintro e w19 ⟨rfl, hb⟩; have HZ19 := Hd (HZ18.out.loc HC.out hb); clear hb)
        | (go_at_call 53; clear tk17; refine (RZ.put HC.out HZ19.out (by omega) (eth1N (at_ s.F 654)) (fun _ _ => rfl)).mono ?_; rintro e w20 ⟨rfl, hz⟩; have HZ20 := Hd hz; clear hz))
       go_loopw [16, 126] (fun u i wr => ∃ (k : Nat) (A : Option Addr) (c : Nat), u = .slice A k c ∧ i = .int .i64 (k : Int) ∧ k ≤ s.nE ∧ OwnZ wr w20.heap.size 24 32 A k c (u8v (votX s.Vot)) ∧ Below w20.heap.size w20 wr) (fun _ i _ => s.nE - (intOf i).toNat)
       case atStart => exact ⟨0, none, 0, rfl, rfl, Nat.zero_le _, OwnZ.nil _ _ _ _ _, Below.refl _ _⟩
       case round =>
        obtain ⟨k, A, c, rfl, rfl, hk, ho, hb⟩ := hrel
        have HO := Hd ho
        have HB := Hd hb
        have hsz := hb.size
        clear ho hb
        by_cases h1 : k < s.nE
        ·obtain ⟨ad, hA, _, _⟩ := (HC.out.ok.rE : Rd w B s.aE (s.nE * 65) s.Vot) (by omega)
         have HCE := Hd (show ∀ q, q < 65 → wr.cell? ((ad.add (k * 65)).add q) = some ((fun q => s.Vot (k * 65 + q)) q) from fun q hq => by
          have h := (HC.out.ok' (thnB HZ20.out.bel HB.out (lT HC.out.hBw HZ20.out.bel.size))).rE.cell_' hA (k := k * 65 + q) (by omega)
          rw [zb1]; exact h)
         have HSE := Hd (HC.out.ok.scE k h1)
         have H1E := Hd (show ∀ q, q < 65 → (s.Vot (k * 65 + q)).oneCell' = true from fun q hq => StCopy.zei HC.out.ok.scE (by kernel_rfl) _ (by omega))
         rw [hA]
         clear hA
         go_wp2_with (first
          | ((with_reducible refine at_l ?_); first
           | (refine zab rfl 128 rfl (.pointer (some (ad.add (k * 65)))) ?_ ?_; (· exact zbb rfl rfl rfl (fun w => zaw (z := 65) w Ty35 (by kernel_rfl) ad h1) _))
           | (refine zae rfl 34 (.tmp 128) rfl 65 _ Ty34 rfl (by kernel_rfl) (ad.add (k * 65)) rfl (fun q => s.Vot (k * 65 + q)) HCE.out ?_)
           | (refine zae rfl 34 (.tmp 19) rfl 65 _ Ty34 rfl (by kernel_rfl) ⟨wr.heap.size, 0, none⟩ rfl (fun q => s.Vot (k * 65 + q)) (fun q hq => by rw [zai]; exact HR6.out.cell hq) ?_)
           | (refine zbu rfl Ty32 s24 (by omega) (by omega) z24 _ rfl (u8v (eth1N fun q => s.Vot (k * 65 + q))) rfl (HS.nil _) ?_; intro bS w8 hbS hcS hs; have HS8 := Hd hs; have HB8 := Hd (thnB HB7.out (hs.out (by simp; omega)) HB7.out.size); clear hs))
          | (refine zbk rfl rfl 34 34 19 (.tmp 129) rfl rfl rfl 65 (zeroOf Tryd.prog 34) (by kernel_rfl) (by kernel_rfl) (arr 65 (fun q => s.Vot (k * 65 + q))) rfl rfl (zam _ _) (by kernel_rfl) (fun q hq => ⟨_, zaq _ _ _ hq, H1E.out q hq⟩) (fun q => s.Vot (k * 65 + q)) (fun q hq => zaq _ _ _ hq) ?_; intro w6 hr6 hb6; have HR6 := Hd hr6; have HB6 := Hd hb6; clear hr6 hb6; simp only [pcX])
          | (go_at_call 26; refine (zge (fun q => s.Vot (k * 65 + q)) HSE.out _ (HC.out.sha' (thnB HZ20.out.bel (thnB HB.out HB6.out hsz) (lT HC.out.hBw HZ20.out.bel.size)))).mono ?_; rintro e w7 ⟨rfl, hb⟩; have HB7 := Hd (thnB HB6.out hb HB6.out.size); clear hb)
          | (at_builtin; refine zba _ (.tmp 130) (.tmp 133) 32 w20.heap.size i24 Ty32 (by rfl) (by omega) rfl rfl (k + 1) (u8v (votX s.Vot)) rfl rfl (HO.out.all HB8.out) (Rd.of_row (n := 1 * 32) (HS8.out.row 0 rfl) lR (HS8.out.lt 0 rfl)) (fun _ _ => rfl) rfl (zjj (votX s.Vot) k (eth1N fun q => s.Vot (k * 65 + q)) (fun q hq => by unfold votX; rw [show (k * 32 + q) / 32 = k by omega, show (k * 32 + q) % 32 = q by omega])) ⟨by omega, by omega⟩ (lT hsz HB8.out.size) ?_; intro A' c' w9 ho9 hg9 ha9; have HO9 := Hd ho9; have HG9 := Hd hg9; clear ho9 hg9 ha9))
         go_roundw
         case rel => exact ⟨k + 1, A', c', rfl, by go_num, by omega, HO9.out, za4 (thnB HB.out HB8.out hsz) HG9.out (lT hsz HB8.out.size) (fun ad e => (HO.out.base_le ad e).1)⟩
         case measure => simp [intOf]; omega
        ·obtain rfl : s.nE = k := by omega
         have HVR := Hd HO.out.rd
         have hcap := HO.out.cap
         obtain ⟨w21, hw21⟩ : ∃ w21 : World, w21 = wr := ⟨_, rfl⟩
         subst hw21
         have HZ21 := Hd (HZ20.out.loc HC.out HB.out)
         clear HO HB h1 hsz
         obtain ⟨XE, hXE⟩ : ∃ X, X = treeN (dep 8) s.nE (votX s.Vot) := ⟨_, rfl⟩
         have HXE := Hd hXE
         have HXlE : Hid (∀ i, XE i < 256) := Hd (by rw [hXE]; exact za9 (zf0 _) _ _)
         clear hXE
         go_wp2_with (first
          | (go_at_call 25; clear tk18; refine (zd8 s.nE c A (votX s.Vot) 8 _ HVR.out (zf0 _) hcap (by omega) hnE (HC.out.sha' HZ21.out.bel)).mono ?_; rintro e w22 ⟨rfl, hb⟩; rw [← HXE.out]; have HZ22 := Hd (HZ21.out.loc HC.out hb); clear hb)
          | (clear tk19; refine zbk rfl rfl 24 24 20 (.tmp 142) rfl rfl rfl 32 (Array.replicate 32 (.int .u8 0)) (by kernel_rfl) (by rfl) (arr 32 (u8v XE)) rfl rfl (zam _ _) (by kernel_rfl) (fun q hq => ⟨_, zaq _ _ _ hq, rfl⟩) (u8v XE) (fun q hq => zaq _ _ _ hq) ?_; intro w23 hr hb; have HQ23 := Hd hr; have HZ23 := Hd (HZ22.out.loc HC.out hb); clear hr hb; simp only [pcX])
          | ((with_reducible refine at_l ?_); first
           | (refine zae rfl 24 (.tmp 20) rfl 32 _ Ty24 rfl s24 ⟨w22.heap.size, 0, none⟩ rfl (u8v XE) (fun q hq => by rw [zai]; exact HQ23.out.cell hq) ?_)
           | (refine zab rfl 148 rfl (.int .u64 (s.nE : Int)) ?_ ?_; (· exact zdc rfl rfl (fun w => by simp [go_sem, IntKind.wrap, IntKind.bits, IntKind.signed]; omega) _)))
          | (go_at_call 31; clear tk20; refine (zdk XE HXlE.out s.nE _ (HC.out.sha' HZ23.out.bel)).mono ?_; rintro e w24 ⟨rfl, hb⟩; have HZ24 := Hd (HZ23.out.loc HC.out hb); clear hb)
          | (go_at_call 53; clear tk21; refine (RZ.put HC.out HZ24.out (by omega) (lmixN XE s.nE) (fun q _ => by rw [HXE.out]; rfl)).mono ?_; rintro e w25 ⟨rfl, hz⟩; have HZ25 := Hd hz; clear hz))
         go_end0
         exact ⟨rfl, HZ25.out⟩
end Go.Proofs.YtomilckcgmhfcaaDoor
