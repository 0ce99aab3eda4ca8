/- A part of what the proofs stand on: MakeL, ShufClone, ShaStream, ShaWalks, ShaIdx. -/
import Derived.Test.YtjmbgdldnnmipaaDoorGShu7
import Derived.Laws.MakeOwn
import Derived.Lib.SliceRun
import Derived.Test.YtjmbgdldnnmipaaDoorGShu4
import Derived.Deep.DeepCutAuto
import Derived.Deep.Light
/- A list that is made. -/
namespace Go.Proofs.YtjmbgdldnnmipaaDoor
set_option maxRecDepth 40000
open Go.RowKit
theorem made_u8 (k N : Nat) (hk : 0 < k) : ∀ i, i < N → (madeCells (Array.replicate k (Value.int .u8 0)) N)[i]? = some (.int .u8 0) := fun i hi => by
  have hm : i % k < k := Nat.mod_lt _ hk
  simp [madeCells, hi, hm]
section
variable {P : Program}
theorem wpList_makeL {ops : Array Oper} {rest : List Oper} {o : Oper} {a : Act} {w w0 : World} {Q : Exit → Act → World → Prop} {rows : List RowSpec} (hgd : o.guard = none) (t : TypeId) {e : TypeId} {z : Value} {k bytes : Nat} (ht : P.underlying t = some (.slice e)) (hinfo : (P.info? e).map (fun i => (i.zero, i.size, i.bytes)) = some (some z, k, bytes))
    (x y : Operand) (ho : o.op = .makeSlice t x y) (n : Nat) (hx : a.eval x = .int .i64 (n : Int)) (hy : a.eval y = .int .i64 (n : Int)) (f : Nat → Value) (hf : ∀ i, i < n * k → (madeCells z.cells (n * k))[i]? = some (f i)) (hbytes : bytes * n ≤ 281474976710656) (h63 : n ≤ 9223372036854775807) (h : HS w0 w rows)
    (hK : ∀ b w', w0.heap.size ≤ b → w.heap.size ≤ b → HS w0 w' (⟨b, e, n * k, f⟩ :: rows) → wpList P ops Q rest (a.put o.dst (.slice (some ⟨b, 0, none⟩) n n)) w') : wpList P ops Q (o :: rest) a w :=
  wpList_plain hgd fun _ hK' => by
    obtain ⟨i, hi, hz, hsize, hby⟩ := infoZ hinfo
    have hr := run_make (P := P) w t e i z ht hi hz .i64 .i64 (n : Int) (n : Int) (by omega) (Int.le_refl _) (by rw [hby, ← Int.natCast_mul]; omega) (by omega)
    simp only [Int.toNat_natCast, hsize] at hr
    have hrun : (execOp a.eval o).run P w = .ok (.value (.slice (some ⟨w.heap.size, 0, none⟩) n n)) (w.alloc (.cells (madeCells z.cells (n * k)) e)) := by
      unfold execOp
      rw [ho]
      simp only [hx, hy]
      simp [hr]
    unfold Oper.wp
    rw [hrun]
    exact hK' _ _ (hK _ _ h.size (Nat.le_refl _) (h.alloc _ e (n * k) f (size_madeCells _ _) hf))
end
end Go.Proofs.YtjmbgdldnnmipaaDoor
/- slices.Clone of a list of numbers; new slices whose length is a number of 64 bits. -/
namespace Go.Proofs.YtjmbgdldnnmipaaDoor
set_option maxRecDepth 40000
open Go.RowKit
section
variable {P : Program}
theorem wpList_makeLU {ops : Array Oper} {rest : List Oper} {o : Oper} {a : Act} {w w0 : World} {Q : Exit → Act → World → Prop} {rows : List RowSpec} (hgd : o.guard = none) (t : TypeId) {e : TypeId} {z : Value} {k bytes : Nat} (ht : P.underlying t = some (.slice e)) (hinfo : (P.info? e).map (fun i => (i.zero, i.size, i.bytes)) = some (some z, k, bytes))
    (x y : Operand) (ho : o.op = .makeSlice t x y) (n : Nat) (hx : a.eval x = .int .u64 (n : Int)) (hy : a.eval y = .int .u64 (n : Int)) (f : Nat → Value) (hf : ∀ i, i < n * k → (madeCells z.cells (n * k))[i]? = some (f i)) (hbytes : bytes * n ≤ 281474976710656) (h63 : n ≤ 9223372036854775807) (h : HS w0 w rows)
    (hK : ∀ b w', w0.heap.size ≤ b → w.heap.size ≤ b → HS w0 w' (⟨b, e, n * k, f⟩ :: rows) → wpList P ops Q rest (a.put o.dst (.slice (some ⟨b, 0, none⟩) n n)) w') : wpList P ops Q (o :: rest) a w :=
  wpList_plain hgd fun _ hK' => by
    obtain ⟨i, hi, hz, hsize, hby⟩ := infoZ hinfo
    have hr := run_make (P := P) w t e i z ht hi hz .u64 .u64 (n : Int) (n : Int) (by omega) (Int.le_refl _) (by rw [hby, ← Int.natCast_mul]; omega) (by omega)
    simp only [Int.toNat_natCast, hsize] at hr
    have hrun : (execOp a.eval o).run P w = .ok (.value (.slice (some ⟨w.heap.size, 0, none⟩) n n)) (w.alloc (.cells (madeCells z.cells (n * k)) e)) := by
      unfold execOp
      rw [ho]
      simp only [hx, hy]
      simp [hr]
    unfold Oper.wp
    rw [hrun]
    exact hK' _ _ (hK _ _ h.size (Nat.le_refl _) (h.alloc _ e (n * k) f (size_madeCells _ _) hf))
end
/-- Numbers as a value. -/
abbrev u64v (f : Nat → Nat) : Nat → Value := fun i => .int .u64 ((f i : Nat) : Int)
theorem run_bs0_64 (w : World) : (Instr.buildSlice 46 0 #[]).run Tryd.prog w = .ok (.slice (some ⟨w.heap.size, 0, none⟩) 0 0) (w.alloc (.cells #[] 25)) := by simp [go_sem]
theorem eqNil64 (w : World) (A : Option Addr) (n c : Nat) : (binOp .eql 46 (.slice A n c) (.slice none 0 0)).run Tryd.prog w = .ok (.bool A.isNone) w :=
  Lib.run_eql_slice_nil w _ _ A n c 0 0 Tryd.underlying46
theorem ex_eqN {o : Oper} {a : Act} {ty rt : TypeId} {x : Operand} {u : Value} {b : Bool} {w : World} (ho : o.op = .binOp .eql ty x (.const (.slice none 0 0)) rt) (hx : a.eval x = u) (hr : (binOp .eql ty u (.slice none 0 0)).run Tryd.prog w = .ok (.bool b) w) : (execOp a.eval o).run Tryd.prog w = .ok (.value (.bool b)) w := by
  unfold execOp
  rw [ho]
  have h2 : a.eval (.const (.slice none 0 0)) = .slice none 0 0 := rfl
  simp only [hx, h2]
  simp [eqGuard, hr]
set_option maxHeartbeats 2000000 in
theorem clone_any (n c : Nat) (A : Option Addr) (x : Nat → Nat) (w : World) (hb : Rd w w.heap.size A n (u64v x)) (hn : n ≤ 17592186044416) (hA : A = none → c = 0) :
    Calls Tryd.prog 49 #[.slice A n c] w fun e w' => ∃ A' c', e = .returned (.slice A' n c') ∧ OwnZ w' w.heap.size 25 1 A' n c' (u64v x) ∧ Below w.heap.size w w' := by
  have HX := Lib.hid hb
  have HS0 := Lib.hid (HS.nil w)
  cases A with
  | none =>
    obtain rfl : n = 0 := by
      rcases Nat.eq_zero_or_pos n with h | h
      · exact h
      · obtain ⟨ad, h1, _⟩ := hb h; cases h1
    obtain rfl := hA rfl
    go_enter Tryd.func49, Tryd.ntmps49
    go_wp2_with (refine wpList_as rfl 4 rfl (.bool true) ?_ ?_; (· exact ex_eqN rfl rfl (eqNil64 w none 0 0)))
    go_ret
    exact ⟨none, 0, rfl, OwnZ.nil _ _ _ _ _, Below.refl _ _⟩
  | some ad =>
    clear hb hA
    go_enter Tryd.func49, Tryd.ntmps49
    go_wp2_with (first
      | (refine wpList_as rfl 4 rfl (.bool false) ?_ ?_; (· exact ex_eqN rfl rfl (eqNil64 w (some ad) n c)))
      | (refine wpList_bs0L rfl 1 rfl run_bs0_64 HS0.out ?_; intro b5 w2 hb5 hs ho; have HS2 := Lib.hid hs; have HO2 := Lib.hid ho; clear hs ho)
      | (at_builtin; refine wpList_app0L rfl (.tmp 5) (.tmp 6) 46 w.heap.size (z := .int .u64 0) (k := 1) (bytes := 8) (by kernel_rfl) Tryd.underlying46 (by rfl) (by omega) rfl rfl HO2.out rfl (by rw [Nat.mul_one]; exact HX.out.below HS2.out.bel) (fun _ _ => rfl) ⟨by omega, by omega⟩ HS2.out.size HS2.out ?_; intro A7 c7 w3 ho hs; have HO3 := Lib.hid ho; have HS3 := Lib.hid hs; clear ho hs))
    go_ret
    exact ⟨A7, c7, rfl, HO3.out, HS3.out.bel⟩
end Go.Proofs.YtjmbgdldnnmipaaDoor
/- SHA-256 of any number of bytes, in plain Lean. -/
namespace Go.Proofs.YtjmbgdldnnmipaaDoor
set_option maxRecDepth 40000
open Go.RowKit

theorem win_congr (m m' : Nat → W32) (h : ∀ i, i < 16 → m i = m' i) : ∀ (t j : Nat), j < 16 → win m t j = win m' t j
  | 0, j, hj => h j hj
  | t + 1, j, hj => by
    have ih := win_congr m m' h t
    simp only [win]
    by_cases e : j < 15
    · rw [if_pos e, if_pos e, ih (j + 1) (by omega)]
    · rw [if_neg e, if_neg e, ih 0 (by omega), ih 1 (by omega), ih 9 (by omega), ih 14 (by omega)]
theorem rounds_congr (m m' : Nat → W32) (s : S8) (h : ∀ i, i < 16 → m i = m' i) : ∀ t, rounds m s t = rounds m' s t
  | 0 => rfl
  | t + 1 => by
    have e : Wt m t = Wt m' t := win_congr m m' h t 0 (by omega)
    simp only [rounds, rounds_congr m m' s h t, e]
theorem comp_congr (H : Nat → W32) (m m' : Nat → Nat) (h : ∀ i, i < 64 → m i = m' i) : comp H m = comp H m' := by
  unfold comp
  rw [rounds_congr (word m) (word m') (S8.of H) (fun i hi => by unfold word; rw [h (4 * i) (by omega), h (4 * i + 1) (by omega), h (4 * i + 2) (by omega), h (4 * i + 3) (by omega)]) 64]
def hList : List Nat := [0x6a09e667, 0xbb67ae85, 0x3c6ef372, 0xa54ff53a, 0x510e527f, 0x9b05688c, 0x1f83d9ab, 0x5be0cd19]
/-- The words that all begins with. -/
def h0 (i : Nat) : W32 := BitVec.ofNat 32 (hList.getD i 0)
/-- Block k of some bytes. -/
def blk (m : Nat → Nat) (k : Nat) : Nat → Nat := fun i => m (64 * k + i)
/-- The words behind k blocks. -/
def Hs (m : Nat → Nat) : Nat → Nat → W32
  | 0 => h0
  | k + 1 => comp (Hs m k) (blk m k)
theorem Hs_congr (m m' : Nat → Nat) : ∀ k, (∀ i, i < 64 * k → m i = m' i) → Hs m k = Hs m' k
  | 0, _ => rfl
  | k + 1, h => by
    simp only [Hs]
    rw [Hs_congr m m' k (fun i hi => h i (by omega))]
    exact comp_congr _ _ _ (fun i hi => h _ (by omega))
/-- How many blocks there are behind the padding. -/
def nb (len : Nat) : Nat := (len + 8) / 64 + 1
def padF (len : Nat) (m : Nat → Nat) (j : Nat) : Nat :=
  if j < len then m j else if j = len then 128 else if j < 64 * nb len - 8 then 0 else 8 * len % 18446744073709551616 / 2 ^ (8 * (64 * nb len - 1 - j)) % 256
/-- The words as bytes. -/
def rootOf (H : Nat → W32) (i : Nat) : Nat := (H (i / 4) >>> (24 - 8 * (i % 4))).toNat % 256
/-- The sum of the first len bytes of m. -/
def shaB (m : Nat → Nat) (len : Nat) : Nat → Nat := rootOf (Hs (padF len m) (nb len))
theorem rootOf_lt (H : Nat → W32) (i : Nat) : rootOf H i < 256 := Nat.mod_lt _ (by omega)
theorem shaB_lt (m : Nat → Nat) (len i : Nat) : shaB m len i < 256 := rootOf_lt _ _
theorem shaB_congr {m m' : Nat → Nat} {len : Nat} (h : ∀ i, i < len → m i = m' i) : shaB m len = shaB m' len := by
  have e : padF len m = padF len m' := by
    funext j
    unfold padF
    by_cases hj : j < len
    · rw [if_pos hj, if_pos hj, h j hj]
    · rw [if_neg hj, if_neg hj]
  unfold shaB; rw [e]
theorem padF_lt (len : Nat) (m : Nat → Nat) (hm : ∀ i, m i < 256) (j : Nat) : padF len m j < 256 := by
  unfold padF
  split
  · exact hm j
  · split
    · omega
    · split
      · omega
      · exact Nat.mod_lt _ (by omega)
theorem Hs_pad (m : Nat → Nat) (len k : Nat) (h : 64 * k ≤ len) : Hs (padF len m) k = Hs m k :=
  Hs_congr _ _ k (fun i hi => by unfold padF; rw [if_pos (by omega)])

/-- What the cells of a digest hold when len bytes of m came; z: what lies behind the rest. -/
def digF (m : Nat → Nat) (len : Nat) (z : Nat → Nat) : Nat → Value := fun j =>
  if j < 8 then wv (Hs m (len / 64) j) else if j < 72 then .int .u8 ((if j - 8 < len % 64 then m (64 * (len / 64) + (j - 8)) else z (j - 8) : Nat) : Int)
  else if j = 72 then .int .i64 ((len % 64 : Nat) : Int) else .int .u64 ((len % 18446744073709551616 : Nat) : Int)
/-- A digest in the making: n of these words, this rest, so many bytes in all. -/
def digG (H : Nat → W32) (x : Nat → Nat) (n : Nat) (all : Nat) : Nat → Value := fun j =>
  if j < 8 then wv (H j) else if j < 72 then .int .u8 ((x (j - 8) : Nat) : Int) else if j = 72 then .int .i64 ((n : Nat) : Int) else .int .u64 ((all % 18446744073709551616 : Nat) : Int)
def restF (m : Nat → Nat) (len : Nat) (z : Nat → Nat) : Nat → Nat := fun j => if j < len % 64 then m (64 * (len / 64) + j) else z j
theorem digF_G (m : Nat → Nat) (len : Nat) (z : Nat → Nat) : digF m len z = digG (Hs m (len / 64)) (restF m len z) (len % 64) len := rfl
/-- n bytes of m, and behind them those of x. -/
def catN (n : Nat) (m x : Nat → Nat) : Nat → Nat := fun i => if i < n then m i else x (i - n)
theorem catN_lt {n : Nat} {m x : Nat → Nat} (hm : ∀ i, m i < 256) (hx : ∀ i, x i < 256) (i : Nat) : catN n m x i < 256 := by
  unfold catN; split
  · exact hm i
  · exact hx _
end Go.Proofs.YtjmbgdldnnmipaaDoor
/- The walks of package sha. -/
namespace Go.Proofs.YtjmbgdldnnmipaaDoor
set_option maxRecDepth 40000
open Go.RowKit

set_option maxHeartbeats 400000 in
theorem turn_2 (x : W32) (w : World) : Calls Tryd.prog 58 #[wv x, .int .i64 2] w fun e w' => e = .returned (wv (rotr x 2)) ∧ w = w' := by
  have hs : bits BinOp.and IntKind.u64 (IntKind.u64.wrap (-2)) 31 = 30 := by decide
  have h1 := Lib.hid (show (x.toNat : Int) * (1073741824 : Int) % (4294967296 : Int) = (((x <<< 30).toNat : Nat) : Int) from u32_shl x 30)
  have h2 := Lib.hid (show (x.toNat : Int) / (4 : Int) = (((x >>> 2).toNat : Nat) : Int) from u32_shr x 2)
  have h3 := Lib.hid (u32_or (x <<< 30) (x >>> 2))
  go_enter Tryd.func58, Tryd.ntmps58
  go_wp2
  go_ret
  exact ⟨ret_int (by rw [h1.out, h2.out, h3.out, BitVec.or_comm]; rfl), rfl⟩

set_option maxHeartbeats 400000 in
theorem turn_6 (x : W32) (w : World) : Calls Tryd.prog 58 #[wv x, .int .i64 6] w fun e w' => e = .returned (wv (rotr x 6)) ∧ w = w' := by
  have hs : bits BinOp.and IntKind.u64 (IntKind.u64.wrap (-6)) 31 = 26 := by decide
  have h1 := Lib.hid (show (x.toNat : Int) * (67108864 : Int) % (4294967296 : Int) = (((x <<< 26).toNat : Nat) : Int) from u32_shl x 26)
  have h2 := Lib.hid (show (x.toNat : Int) / (64 : Int) = (((x >>> 6).toNat : Nat) : Int) from u32_shr x 6)
  have h3 := Lib.hid (u32_or (x <<< 26) (x >>> 6))
  go_enter Tryd.func58, Tryd.ntmps58
  go_wp2
  go_ret
  exact ⟨ret_int (by rw [h1.out, h2.out, h3.out, BitVec.or_comm]; rfl), rfl⟩

set_option maxHeartbeats 400000 in
theorem turn_7 (x : W32) (w : World) : Calls Tryd.prog 58 #[wv x, .int .i64 7] w fun e w' => e = .returned (wv (rotr x 7)) ∧ w = w' := by
  have hs : bits BinOp.and IntKind.u64 (IntKind.u64.wrap (-7)) 31 = 25 := by decide
  have h1 := Lib.hid (show (x.toNat : Int) * (33554432 : Int) % (4294967296 : Int) = (((x <<< 25).toNat : Nat) : Int) from u32_shl x 25)
  have h2 := Lib.hid (show (x.toNat : Int) / (128 : Int) = (((x >>> 7).toNat : Nat) : Int) from u32_shr x 7)
  have h3 := Lib.hid (u32_or (x <<< 25) (x >>> 7))
  go_enter Tryd.func58, Tryd.ntmps58
  go_wp2
  go_ret
  exact ⟨ret_int (by rw [h1.out, h2.out, h3.out, BitVec.or_comm]; rfl), rfl⟩

set_option maxHeartbeats 400000 in
theorem turn_11 (x : W32) (w : World) : Calls Tryd.prog 58 #[wv x, .int .i64 11] w fun e w' => e = .returned (wv (rotr x 11)) ∧ w = w' := by
  have hs : bits BinOp.and IntKind.u64 (IntKind.u64.wrap (-11)) 31 = 21 := by decide
  have h1 := Lib.hid (show (x.toNat : Int) * (2097152 : Int) % (4294967296 : Int) = (((x <<< 21).toNat : Nat) : Int) from u32_shl x 21)
  have h2 := Lib.hid (show (x.toNat : Int) / (2048 : Int) = (((x >>> 11).toNat : Nat) : Int) from u32_shr x 11)
  have h3 := Lib.hid (u32_or (x <<< 21) (x >>> 11))
  go_enter Tryd.func58, Tryd.ntmps58
  go_wp2
  go_ret
  exact ⟨ret_int (by rw [h1.out, h2.out, h3.out, BitVec.or_comm]; rfl), rfl⟩

set_option maxHeartbeats 400000 in
theorem turn_13 (x : W32) (w : World) : Calls Tryd.prog 58 #[wv x, .int .i64 13] w fun e w' => e = .returned (wv (rotr x 13)) ∧ w = w' := by
  have hs : bits BinOp.and IntKind.u64 (IntKind.u64.wrap (-13)) 31 = 19 := by decide
  have h1 := Lib.hid (show (x.toNat : Int) * (524288 : Int) % (4294967296 : Int) = (((x <<< 19).toNat : Nat) : Int) from u32_shl x 19)
  have h2 := Lib.hid (show (x.toNat : Int) / (8192 : Int) = (((x >>> 13).toNat : Nat) : Int) from u32_shr x 13)
  have h3 := Lib.hid (u32_or (x <<< 19) (x >>> 13))
  go_enter Tryd.func58, Tryd.ntmps58
  go_wp2
  go_ret
  exact ⟨ret_int (by rw [h1.out, h2.out, h3.out, BitVec.or_comm]; rfl), rfl⟩

set_option maxHeartbeats 400000 in
theorem turn_17 (x : W32) (w : World) : Calls Tryd.prog 58 #[wv x, .int .i64 17] w fun e w' => e = .returned (wv (rotr x 17)) ∧ w = w' := by
  have hs : bits BinOp.and IntKind.u64 (IntKind.u64.wrap (-17)) 31 = 15 := by decide
  have h1 := Lib.hid (show (x.toNat : Int) * (32768 : Int) % (4294967296 : Int) = (((x <<< 15).toNat : Nat) : Int) from u32_shl x 15)
  have h2 := Lib.hid (show (x.toNat : Int) / (131072 : Int) = (((x >>> 17).toNat : Nat) : Int) from u32_shr x 17)
  have h3 := Lib.hid (u32_or (x <<< 15) (x >>> 17))
  go_enter Tryd.func58, Tryd.ntmps58
  go_wp2
  go_ret
  exact ⟨ret_int (by rw [h1.out, h2.out, h3.out, BitVec.or_comm]; rfl), rfl⟩

set_option maxHeartbeats 400000 in
theorem turn_18 (x : W32) (w : World) : Calls Tryd.prog 58 #[wv x, .int .i64 18] w fun e w' => e = .returned (wv (rotr x 18)) ∧ w = w' := by
  have hs : bits BinOp.and IntKind.u64 (IntKind.u64.wrap (-18)) 31 = 14 := by decide
  have h1 := Lib.hid (show (x.toNat : Int) * (16384 : Int) % (4294967296 : Int) = (((x <<< 14).toNat : Nat) : Int) from u32_shl x 14)
  have h2 := Lib.hid (show (x.toNat : Int) / (262144 : Int) = (((x >>> 18).toNat : Nat) : Int) from u32_shr x 18)
  have h3 := Lib.hid (u32_or (x <<< 14) (x >>> 18))
  go_enter Tryd.func58, Tryd.ntmps58
  go_wp2
  go_ret
  exact ⟨ret_int (by rw [h1.out, h2.out, h3.out, BitVec.or_comm]; rfl), rfl⟩

set_option maxHeartbeats 400000 in
theorem turn_19 (x : W32) (w : World) : Calls Tryd.prog 58 #[wv x, .int .i64 19] w fun e w' => e = .returned (wv (rotr x 19)) ∧ w = w' := by
  have hs : bits BinOp.and IntKind.u64 (IntKind.u64.wrap (-19)) 31 = 13 := by decide
  have h1 := Lib.hid (show (x.toNat : Int) * (8192 : Int) % (4294967296 : Int) = (((x <<< 13).toNat : Nat) : Int) from u32_shl x 13)
  have h2 := Lib.hid (show (x.toNat : Int) / (524288 : Int) = (((x >>> 19).toNat : Nat) : Int) from u32_shr x 19)
  have h3 := Lib.hid (u32_or (x <<< 13) (x >>> 19))
  go_enter Tryd.func58, Tryd.ntmps58
  go_wp2
  go_ret
  exact ⟨ret_int (by rw [h1.out, h2.out, h3.out, BitVec.or_comm]; rfl), rfl⟩

set_option maxHeartbeats 400000 in
theorem turn_22 (x : W32) (w : World) : Calls Tryd.prog 58 #[wv x, .int .i64 22] w fun e w' => e = .returned (wv (rotr x 22)) ∧ w = w' := by
  have hs : bits BinOp.and IntKind.u64 (IntKind.u64.wrap (-22)) 31 = 10 := by decide
  have h1 := Lib.hid (show (x.toNat : Int) * (1024 : Int) % (4294967296 : Int) = (((x <<< 10).toNat : Nat) : Int) from u32_shl x 10)
  have h2 := Lib.hid (show (x.toNat : Int) / (4194304 : Int) = (((x >>> 22).toNat : Nat) : Int) from u32_shr x 22)
  have h3 := Lib.hid (u32_or (x <<< 10) (x >>> 22))
  go_enter Tryd.func58, Tryd.ntmps58
  go_wp2
  go_ret
  exact ⟨ret_int (by rw [h1.out, h2.out, h3.out, BitVec.or_comm]; rfl), rfl⟩

set_option maxHeartbeats 400000 in
theorem turn_25 (x : W32) (w : World) : Calls Tryd.prog 58 #[wv x, .int .i64 25] w fun e w' => e = .returned (wv (rotr x 25)) ∧ w = w' := by
  have hs : bits BinOp.and IntKind.u64 (IntKind.u64.wrap (-25)) 31 = 7 := by decide
  have h1 := Lib.hid (show (x.toNat : Int) * (128 : Int) % (4294967296 : Int) = (((x <<< 7).toNat : Nat) : Int) from u32_shl x 7)
  have h2 := Lib.hid (show (x.toNat : Int) / (33554432 : Int) = (((x >>> 25).toNat : Nat) : Int) from u32_shr x 25)
  have h3 := Lib.hid (u32_or (x <<< 7) (x >>> 25))
  go_enter Tryd.func58, Tryd.ntmps58
  go_wp2
  go_ret
  exact ⟨ret_int (by rw [h1.out, h2.out, h3.out, BitVec.or_comm]; rfl), rfl⟩
end Go.Proofs.YtjmbgdldnnmipaaDoor
/- Indices, loads and stores of package sha's arrays. -/
namespace Go.Proofs.YtjmbgdldnnmipaaDoor
set_option maxRecDepth 40000
open Go.RowKit
section
theorem run_idx_slice (w : World) (ad : Addr) (n c i : Nat) (hi : i < n) : (Instr.indexAt 35 (.slice (some ad) n c) (.int .i64 (i : Int))).run Tryd.prog w = .ok (.pointer (some (ad.add i))) w := by
  have hx : (0 : Int) ≤ (i : Int) ∧ (i : Int) < (n : Int) := by omega
  simp [go_sem, hi]
theorem run_idx16 (w : World) (g o i : Nat) (hi : i < 16) : (Instr.indexAt 86 (.pointer (some ⟨g, o, none⟩)) (.int .i64 (i : Int))).run Tryd.prog w = .ok (.pointer (some ⟨g, o + i, none⟩)) w := by
  have hx : (i : Int) < 16 := by omega
  simp [go_sem, hx]
theorem run_idx64 (w : World) (g o i : Nat) (hi : i < 64) : (Instr.indexAt 88 (.pointer (some ⟨g, o, none⟩)) (.int .i64 (i : Int))).run Tryd.prog w = .ok (.pointer (some ⟨g, o + i, none⟩)) w := by
  have hx : (i : Int) < 64 := by omega
  simp [go_sem, hx]
theorem run_idx8 (w : World) (g o i : Nat) (hi : i < 8) : (Instr.indexAt 65 (.pointer (some ⟨g, o, none⟩)) (.int .i64 (i : Int))).run Tryd.prog w = .ok (.pointer (some ⟨g, o + i, none⟩)) w := by
  have hx : (i : Int) < 8 := by omega
  simp [go_sem, hx]
theorem run_ld32 (w : World) (a : Addr) (x : W32) (h : w.cell? a = some (wv x)) : (Instr.loadAt 63 (.pointer (some a))).run Tryd.prog w = .ok (wv x) w := by
  simp [go_sem, h]
theorem run_ld8 (w : World) (a : Addr) (b : Nat) (h : w.cell? a = some (.int .u8 (b : Int))) : (Instr.loadAt 5 (.pointer (some a))).run Tryd.prog w = .ok (.int .u8 (b : Int)) w := by
  simp [go_sem, h]
theorem run_st32 (w : World) (a : Addr) (x : W32) (y : Value) (h : w.cell? a = some y) (hf : w.frozen? a = false) : (Instr.storeAt 63 (.pointer (some a)) (wv x)).run Tryd.prog w = .ok () (w.setCell a (wv x)) := by
  simp [go_sem, h, hf]
end
end Go.Proofs.YtjmbgdldnnmipaaDoor
