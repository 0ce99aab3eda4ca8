/- The walks of package bits: what each call answers and leaves. -/
import Derived.Test.YtjeakdbdofhkgaaBitsPlain
namespace Go.Proofs.Ytjeakdbdofhkgaa
open Go.RowKit

set_option maxHeartbeats 400000 in
theorem set_any (g N n c i : Nat) (a : Nat) (f : Nat → Value) (w : World) (hr : w.rowIs g 5 N f) (hin : i / 8 < n) (hnN : n ≤ N) (hi : i ≤ 9223372036854775807) (ha : a < 2 ^ (i % 8))
    (hfa : f (i / 8) = .int .u8 (a : Int)) :
    Calls Try.prog 19 #[.slice (some ⟨g, 0, none⟩) n c, .int .i64 i] w fun e w' => e = .returned (.tuple #[]) ∧
      w'.rowIs g 5 N (fun j => if j = i / 8 then .int .u8 ((a + 2 ^ (i % 8) : Nat) : Int) else f j) ∧ w.grownBy w' (some g) := by
  have h7 := i64_and7 i hi
  have h8 : (((i % 8 : Nat) : Int)) < 8 := by omega
  have hc : w.cell? ⟨g, i / 8, none⟩ = some (.int .u8 (a : Int)) := by rw [hr.cell (by omega), hfa]
  have hf := hr.frozen (i / 8)
  have HO := Lib.hid (or_bit a (i % 8) (by omega) ha)
  have HR := Lib.hid hr
  clear hr hfa ha
  go_enter Try.func19, Try.ntmps19
  go_wp2
  go_region
  go_end0
  rw [HO.out]
  exact ⟨rfl, HR.out.set _ _, grown_drew (grown_setCell (World.grownBy.refl _ _) (.inl rfl) _)⟩

/-- What lay leaves when i bits are laid. -/
def laid (x : Nat → Bool) (i : Nat) : Nat → Value := fun j => .int .u8 ((byteOf x i j : Nat) : Int)
theorem laid_skip (x : Nat → Bool) (i : Nat) (h : x i = false) : laid x (i + 1) = laid x i := by
  funext j; unfold laid; rw [byteOf_skip x i j h]
theorem laid_hit (x : Nat → Bool) (i : Nat) (h : x i = true) : (fun j => if j = i / 8 then Value.int .u8 ((byteOf x i (i / 8) + 2 ^ (i % 8) : Nat) : Int) else laid x i j) = laid x (i + 1) := by
  funext j; unfold laid
  by_cases e : j = i / 8
  · rw [if_pos e, e, (byteOf_at x i h).1]
  · rw [if_neg e, byteOf_other x i j e]
theorem laid_zero (x : Nat → Bool) : laid x 0 = fun _ => .int .u8 0 := by
  funext j; unfold laid; rw [byteOf_zero]; rfl

set_option maxHeartbeats 400000 in
theorem lay_any (g N c B n cl : Nat) (A : Option Addr) (x : Nat → Bool) (w : World) (hr : w.rowIs g 5 N (fun _ => .int .u8 0)) (hl : Rd w B A n (fun i => .bool (x i))) (hB : B ≤ g)
    (hN : n ≤ 8 * N) (hn : n ≤ 9223372036854775807) :
    Calls Try.prog 18 #[.slice (some ⟨g, 0, none⟩) N c, .slice A n cl] w fun e w' => e = .returned (.slice (some ⟨g, 0, none⟩) N c) ∧
      w'.rowIs g 5 N (laid x n) ∧ w.grownBy w' (some g) := by
  have hlt := hr.lt
  rw [← laid_zero x] at hr
  go_enter Try.func18, Try.ntmps18
  go_wp2
  go_loopw [9] (fun i wr => ∃ k : Nat, k ≤ n ∧ i = .int .i64 k ∧ wr.rowIs g 5 N (laid x k) ∧ w.grownBy wr (some g)) (fun i _ => n - (intOf i).toNat)
  case atStart => exact ⟨0, Nat.zero_le _, rfl, hr, World.grownBy.refl _ _⟩
  case round =>
    obtain ⟨k, hk, rfl, hrow, hgr⟩ := hrel
    by_cases hkn : k < n
    · obtain ⟨ad, rfl, hb, hc⟩ := (hl.grown hgr (by omega) (fun q hq => by injection hq; omega)).at_ hkn
      cases hx : x k
      · rw [hx] at hc
        have hs := laid_skip x k hx
        have Hrow := Lib.hid hrow
        have Hs := Lib.hid hs
        have Hgr := Lib.hid hgr
        clear hs hx hrow hr hl hgr
        go_wp2_with fail
        go_roundw
        case rel => exact ⟨k + 1, by omega, by go_num, by rw [Hs.out]; exact Hrow.out, Hgr.out⟩
        case measure => simp [intOf]; omega
      · rw [hx] at hc
        have hs := laid_hit x k hx
        have ha := (byteOf_at x k hx).2
        have hset := fun W h => set_any g N N c k (byteOf x k (k / 8)) (laid x k) W h (by omega) (by omega) (by omega) ha rfl
        have Hset := Lib.hid hset
        have Hrow := Lib.hid hrow
        have Hs := Lib.hid hs
        have Hgr := Lib.hid hgr
        clear hs hx hrow hr hl hset ha hgr
        go_wp2_with (go_at_call 19; refine (Hset.out _ Hrow.out).mono ?_; rintro e w1 ⟨rfl, hrow1, hgr1⟩)
        have hrow2 := hrow1
        rw [Hs.out] at hrow2
        go_roundw
        case rel => exact ⟨k + 1, by omega, by go_num, hrow2, grown_trans Hgr.out hgr1⟩
        case measure => simp [intOf]; omega
    · obtain rfl : k = n := by omega
      have Hrow := Lib.hid hrow
      have Hgr := Lib.hid hgr
      clear hr hl hrow hgr
      go_wp2
      go_ret
      exact ⟨rfl, Hrow.out, Hgr.out⟩

theorem u8_info : (Try.prog.info? 5).map (fun i => (i.zero, i.size, i.bytes)) = some (some (.int .u8 0), 1, 1) := by kernel_rfl
theorem bool_info : (Try.prog.info? 4).map (fun i => (i.zero, i.size, i.bytes)) = some (some (.bool false), 1, 1) := by kernel_rfl
theorem make_u8 (N : Int) (n : Nat) (hN : N = n) (hn : n ≤ 140737488355328) (W : World) : (Instr.makeSlice 25 (.int .i64 N) (.int .i64 N)).run Try.prog W = .ok (.slice (some ⟨W.heap.size, 0, none⟩) n n) (W.alloc (.cells (madeCells #[.int .u8 0] n) 5)) := by
  subst hN; exact run_make_row' 25 5 _ 1 Try.underlying25 u8_info rfl .i64 .i64 n (by omega) (by omega) W
theorem make_bool (N : Int) (n : Nat) (hN : N = n) (hn : n ≤ 140737488355328) (W : World) : (Instr.makeSlice 22 (.int .i64 N) (.int .i64 N)).run Try.prog W = .ok (.slice (some ⟨W.heap.size, 0, none⟩) n n) (W.alloc (.cells (madeCells #[.bool false] n) 4)) := by
  subst hN; exact run_make_row' 22 4 _ 1 Try.underlying22 bool_info rfl .i64 .i64 n (by omega) (by omega) W

/-- A slice of new memory that reads as f. -/
def NewRow (w : World) (t : TypeId) (n : Nat) (f : Nat → Value) (e : Ending) (w' : World) : Prop :=
  ∃ g, e = .returned (.slice (some ⟨g, 0, none⟩) n n) ∧ w.heap.size ≤ g ∧ w'.rowIs g t n f ∧ Below w.heap.size w w'

set_option maxHeartbeats 400000 in
theorem vector_any (B n cl : Nat) (A : Option Addr) (x : Nat → Bool) (w : World) (hl : Rd w B A n (fun i => .bool (x i))) (hB : B ≤ w.heap.size) (hn : n ≤ 140737488355328) :
    Calls Try.prog 10 #[.slice A n cl] w (NewRow w 5 ((n + 7) / 8) (laid x n)) := by
  have hm := make_u8 (((n : Int) + 7) / 8) ((n + 7) / 8) (by omega) (by omega)
  have Hlay := Lib.hid (lay_any w.heap.size ((n + 7) / 8) ((n + 7) / 8) B n cl A x (w.alloc (.cells (madeCells #[.int .u8 0] ((n + 7) / 8)) 5)) (World.rowIs_made _ _ _ _) (hl.alloc hB _) hB (by omega) (by omega))
  have Hl := Lib.hid hl
  clear hl
  go_enter Try.func10, Try.ntmps10
  go_wp2_with (go_at_call 18; refine Hlay.out.mono ?_; rintro e w1 ⟨rfl, hrow1, hgr1⟩)
  go_ret
  exact ⟨w.heap.size, rfl, Nat.le_refl _, hrow1, ((Below.refl _ w).alloc (Nat.le_refl _) _).trans (below_of_grown hgr1 (Nat.le_refl _) (by simp))⟩

set_option maxHeartbeats 400000 in
theorem list_any (B n cl : Nat) (A : Option Addr) (x : Nat → Bool) (w : World) (hl : Rd w B A n (fun i => .bool (x i))) (hB : B ≤ w.heap.size) (hn : n ≤ 140737488355328) :
    Calls Try.prog 9 #[.slice A n cl] w (NewRow w 5 (n / 8 + 1) (laid (fun i => decide (i < n) && x i || decide (i = n)) (n + 1))) := by
  have hm := make_u8 ((n : Int) / 8 + 1) (n / 8 + 1) (by omega) (by omega)
  let y : Nat → Bool := fun i => decide (i < n) && x i || decide (i = n)
  have hy : ∀ i, i < n → x i = y i := fun i hi => by simp [y, hi, Nat.ne_of_lt hi]
  have hyn : y n = true := by simp [y]
  have Hlay := Lib.hid (lay_any w.heap.size (n / 8 + 1) (n / 8 + 1) B n cl A y (w.alloc (.cells (madeCells #[.int .u8 0] (n / 8 + 1)) 5)) (World.rowIs_made _ _ _ _)
    ((hl.alloc hB _).congr (fun i hi => by rw [hy i hi])) hB (by omega) (by omega))
  have Hset := Lib.hid (fun W h => set_any w.heap.size (n / 8 + 1) (n / 8 + 1) (n / 8 + 1) n (byteOf y n (n / 8)) (laid y n) W h (by omega) (by omega) (by omega) (byteOf_at y n hyn).2 rfl)
  have Hs := Lib.hid (laid_hit y n hyn)
  have Hl := Lib.hid hl
  clear hl
  have Hy := Lib.hid (And.intro hy hyn)
  clear hy hyn
  go_enter Try.func9, Try.ntmps9
  go_wp2_with (go_at_call 18; refine Hlay.out.mono ?_; rintro e w1 ⟨rfl, hrow1, hgr1⟩)
  have Hrow := Lib.hid hrow1
  clear hrow1
  go_wp2_with (go_at_call 19; refine (Hset.out _ Hrow.out).mono ?_; rintro e w2 ⟨rfl, hrow2, hgr2⟩)
  go_ret
  rw [Hs.out] at hrow2
  exact ⟨w.heap.size, rfl, Nat.le_refl _, hrow2, (((Below.refl _ w).alloc (Nat.le_refl _) _).trans (below_of_grown hgr1 (Nat.le_refl _) (by simp))).trans (below_of_grown hgr2 (Nat.le_refl _) (by have := hgr1.size; simp at this; omega))⟩

set_option maxHeartbeats 400000 in
theorem count_any (B n cl : Nat) (A : Option Addr) (x : Nat → Bool) (w : World) (hl : Rd w B A n (fun i => .bool (x i))) (hn : n ≤ 9223372036854775807) :
    Calls Try.prog 11 #[.slice A n cl] w fun e w' => e = .returned (.int .i64 ((count x n : Nat) : Int)) ∧ w = w' := by
  go_enter Try.func11, Try.ntmps11
  go_wp2
  go_loop [3, 8] (fun s i => ∃ k : Nat, k ≤ n ∧ i = .int .i64 k ∧ s = .int .i64 ((count x k : Nat) : Int)) (fun _ i => n - (intOf i).toNat)
  case atStart => exact ⟨0, Nat.zero_le _, rfl, rfl⟩
  case round =>
    obtain ⟨k, hk, rfl, rfl⟩ := hrel
    have hck := count_le x k
    by_cases hkn : k < n
    · obtain ⟨ad, rfl, hb, hc⟩ := hl.at_ hkn
      have Hl := Lib.hid hl
      clear hl
      cases hx : x k
      · rw [hx] at hc
        have Hx := Lib.hid hx
        clear hx
        go_wp2
        go_round
        case rel => exact ⟨k + 1, by omega, by go_num, by simp only [count, Hx.out]; rfl⟩
        case measure => simp [intOf]; omega
      · rw [hx] at hc
        have Hx := Lib.hid hx
        clear hx
        go_wp2
        go_round
        case rel => exact ⟨k + 1, by omega, by go_num, by simp only [count, Hx.out]; go_num⟩
        case measure => simp [intOf]; omega
    · obtain rfl : k = n := by omega
      clear hl
      go_wp2
      go_ret
      exact ⟨rfl, rfl⟩

def sameB (x y : Nat → Bool) (n m : Nat) : Bool := decide (n = m ∧ ∀ i, i < n → x i = y i)

set_option maxHeartbeats 400000 in
theorem same_any (B n cl m cm : Nat) (A C : Option Addr) (x y : Nat → Bool) (w : World) (hl : Rd w B A n (fun i => .bool (x i))) (hm : Rd w B C m (fun i => .bool (y i))) (hn : n ≤ 9223372036854775807) :
    Calls Try.prog 8 #[.slice A n cl, .slice C m cm] w fun e w' => e = .returned (.bool (sameB x y n m)) ∧ Drawn w w' := by
  by_cases hnm : n = m
  · subst hnm
    go_enter Try.func8, Try.ntmps8
    go_wp2
    go_loopw [5] (fun i wr => ∃ k d : Nat, k ≤ n ∧ i = .int .i64 k ∧ (∀ j, j < k → x j = y j) ∧ wr = w.drewN d) (fun i _ => n - (intOf i).toNat)
    case atStart => exact ⟨0, 0, Nat.zero_le _, rfl, fun j hj => absurd hj (by omega), rfl⟩
    case round =>
      obtain ⟨k, d, hk, rfl, heq, rfl⟩ := hrel
      have Heq := Lib.hid heq
      clear heq
      by_cases hkn : k < n
      · obtain ⟨ad, rfl, hb, hc⟩ := hl.at_ hkn
        obtain ⟨ad', rfl, hb', hc'⟩ := hm.at_ hkn
        have Hl := Lib.hid hl
        have Hm := Lib.hid hm
        clear hl hm
        by_cases hxy : x k = y k
        · have HX := Lib.hid hxy
          rw [hxy] at hc
          clear hxy
          go_wp2
          go_quiet (fail)
          go_wp2
          go_roundw
          case rel => exact ⟨k + 1, _, by omega, by go_num, fun j hj => by
            by_cases e : j = k
            · rw [e]; exact HX.out
            · exact Heq.out j (by omega), rfl⟩
          case measure => simp [intOf]; omega
        · have HX := Lib.hid hxy
          have hx' : (!(x k == y k)) = true := by cases hx : x k <;> cases hy : y k <;> simp_all
          clear hxy
          go_wp2
          go_quiet (fail)
          go_wp2
          go_ret
          exact ⟨ret_bool (by unfold sameB; exact (decide_eq_false (fun h => HX.out (h.2 k hkn))).symm), Drawn.trans ⟨d, rfl⟩ ⟨_, rfl⟩⟩
      · obtain rfl : k = n := by omega
        clear hl hm
        go_wp2
        go_ret
        exact ⟨ret_bool (by unfold sameB; exact (decide_eq_true ⟨rfl, Heq.out⟩).symm), ⟨_, rfl⟩⟩
  · have hne : ((n : Int) != (m : Int)) = true := by rw [bne_iff_ne]; omega
    have H := Lib.hid hnm
    clear hnm hl hm
    go_enter Try.func8, Try.ntmps8
    go_wp2
    go_ret
    exact ⟨ret_bool (by unfold sameB; exact (decide_eq_false (fun h => H.out h.1)).symm), Drawn.refl _⟩

/-- The test of a bit, as the walk writes it. -/
theorem bit_test (b r : Nat) : (bits .and .u8 ((b : Int) / 2 ^ r) 1 == 1) = decide (b / 2 ^ r % 2 = 1) := by
  have e : (b : Int) / 2 ^ r = ((b / 2 ^ r : Nat) : Int) := by simp
  rw [e]
  generalize b / 2 ^ r = a
  have h1 : (BitVec.ofInt 8 (a : Int)).toNat = a % 256 := by rw [BitVec.ofInt_natCast, BitVec.toNat_ofNat]
  have h2 : (BitVec.ofInt 8 (1 : Int)).toNat = 1 := rfl
  have h3 : bits .and .u8 (a : Int) 1 = ((a % 2 : Nat) : Int) := by
    show IntKind.u8.wrap ((BitVec.ofInt 8 (a : Int) &&& BitVec.ofInt 8 (1 : Int)).toNat : Int) = _
    rw [BitVec.toNat_and, h1, h2, Nat.and_one_is_mod, IntKind.wrap_u8]
    omega
  rw [h3]
  by_cases h : a % 2 = 1
  · simp [h]
  · have : a % 2 = 0 := by omega
    simp [this]
/-- .. with a shift by an uint. -/
theorem bit_keep (w : World) (b : Nat → Nat) (n k g : Nat) (t : TypeId) (h : w.rowIs g t n (fun i => .bool (decide (i < k) && bitOf b i))) :
    (w.setCell ⟨g, k, none⟩ (.bool (bits .and .u8 ((b (k / 8) : Int) / 2 ^ (k % 8)) 1 == 1))).rowIs g t n (fun i => .bool (decide (i < k + 1) && bitOf b i)) :=
  (h.set k _).congr fun i _ => by
    by_cases e : i = k
    · subst e; rw [if_pos rfl, bit_test]; simp [bitOf]
    · rw [if_neg e]; by_cases c : i < k
      · simp [c, show i < k + 1 by omega]
      · simp [c, show ¬ i < k + 1 by omega]

set_option maxHeartbeats 400000 in
theorem take_any (B n m cl : Nat) (A : Option Addr) (b : Nat → Nat) (w : World) (hl : Rd w B A m (fun i => .int .u8 ((b i : Nat) : Int))) (hB : B ≤ w.heap.size) (hb : ∀ i, b i < 256) (hnm : n ≤ 8 * m) (_hm : m ≤ 140737488355328) (hn : n ≤ 140737488355328) :
    Calls Try.prog 21 #[.slice A m cl, .int .i64 n] w (NewRow w 4 n (fun i => .bool (bitOf b i))) := by
  have hmk := make_bool (n : Int) n rfl hn
  go_enter Try.func21, Try.ntmps21
  go_wp2
  go_loopw [11] (fun i wr => ∃ k : Nat, k ≤ n ∧ i = .int .i64 k ∧ wr.rowIs w.heap.size 4 n (fun i => .bool (decide (i < k) && bitOf b i)) ∧ Below w.heap.size w wr) (fun i _ => n - (intOf i).toNat)
  case atStart => exact ⟨0, Nat.zero_le _, rfl, by simpa using World.rowIs_made _ _ _ _, (Below.refl _ _).alloc (Nat.le_refl _) _⟩
  case round =>
    obtain ⟨k, hk, rfl, hrow, hbel⟩ := hrel
    by_cases hkn : k < n
    · obtain ⟨ad, rfl, hb', hc⟩ := (hl.below (hbel.mono hB)).at_ (k := k / 8) (by omega)
      have hbk := hb (k / 8)
      have h7 := i64_and7 k (by omega)
      have h8 : ((k % 8 : Nat) : Int) < 8 := by omega
      have hw := hrow.cell hkn
      have hf := hrow.frozen k
      have hlt := hrow.lt
      have Hrow := Lib.hid hrow
      have Hbel := Lib.hid hbel
      clear hl hrow hbel hb
      go_wp2
      go_roundw
      case rel => exact ⟨k + 1, by omega, by go_num, bit_keep wr b n k _ _ Hrow.out, Hbel.out.setCell (Nat.le_refl _) _⟩
      case measure => simp [intOf]; omega
    · obtain rfl : k = n := by omega
      have Hrow := Lib.hid hrow
      have Hbel := Lib.hid hbel
      clear hl hrow hbel hb
      go_wp2
      go_ret
      exact ⟨_, rfl, Nat.le_refl _, Hrow.out.congr (fun i hi => by simp [hi]), Hbel.out⟩
end Go.Proofs.Ytjeakdbdofhkgaa
