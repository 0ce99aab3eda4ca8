/- A part of what the proofs stand on: ShaDig, ShaWrite. -/
import Derived.Test.YtjhgndnpihnidaaDoorGPic9
import Derived.Test.YtjhgndnpihnidaaDoorGPic5
import Derived.Test.YtjhgndnpihnidaaDoorGPic6
/- The walks of the digest. -/
namespace Go.Proofs.YtjhgndnpihnidaaDoor
set_option maxRecDepth 40000
open Go.RowKit

/-- The package's words and constants lie where they were laid. -/
structure ShaPkg (w : World) : Prop where
  start : ∀ i, i < 8 → w.cell? ⟨0, i, none⟩ = some (wv (h0 i))
  round : ∀ i, i < 64 → w.cell? ⟨3, i, none⟩ = some (wv (kw i))
theorem ShaPkg.lt {w : World} (h : ShaPkg w) : 0 < w.heap.size ∧ 3 < w.heap.size := by
  have h1 := h.start 0 (by omega)
  have h2 := h.round 0 (by omega)
  exact ⟨cell_lt0 h1, cell_lt0 h2⟩
theorem ShaPkg.keep {w w' : World} (h : ShaPkg w) (hk : ∀ b, b < w.heap.size → (b = 0 ∨ b = 3) → w'.heap[b]? = w.heap[b]?) : ShaPkg w' := by
  have hl := h.lt
  exact ⟨fun i hi => (World.cell?_of_block (a := ⟨0, i, none⟩) (hk _ hl.1 (.inl rfl))).trans (h.start i hi), fun i hi => (World.cell?_of_block (a := ⟨3, i, none⟩) (hk _ hl.2 (.inr rfl))).trans (h.round i hi)⟩
theorem ShaPkg.below {w w' : World} (h : ShaPkg w) (hb : Below w.heap.size w w') : ShaPkg w' := h.keep fun b hb' _ => hb.block b hb'

abbrev agg8' : Value := .agg #[wv (h0 0), wv (h0 1), wv (h0 2), wv (h0 3), wv (h0 4), wv (h0 5), wv (h0 6), wv (h0 7)]
theorem built_dig (m : Nat → Nat) : Tryd.prog.built 135 [(0, agg8')] = some (arr 74 (digF m 0 (fun _ => 0))) := by kernel_rfl
theorem dig_start (m : Nat → Nat) (w : World) : (w.alloc (.cells (arr 74 (digF m 0 (fun _ => 0))) 135)).rowIs w.heap.size 135 74 (digF m 0 (fun _ => 0)) := by
  have := World.rowIs_alloc w (arr 74 (digF m 0 (fun _ => 0))) 135 (digF m 0 (fun _ => 0)) (fun i hi => arr_at _ _ i (by rwa [size_arr] at hi))
  rwa [size_arr] at this

set_option maxHeartbeats 400000 in
theorem new_any (w : World) (hp : ShaPkg w) (m : Nat → Nat) :
    Calls Tryd.prog 62 #[] w fun e w' => ∃ g, e = .returned (.pointer (some ⟨g, 0, none⟩)) ∧ w.heap.size ≤ g ∧ w'.rowIs g 135 74 (digF m 0 (fun _ => 0)) ∧ Below w.heap.size w w' := by
  have HP := Lib.hid hp
  clear hp
  go_enter Tryd.func62, Tryd.ntmps62
  go_wp2_with (first
    | (refine wpList_load_part rfl 127 (.global 0) rfl 0 0 8 (fun i => wv (h0 i)) rfl _ (fun i hi => by rw [Nat.zero_add]; exact HP.out.start i hi) Tryd.underlying127 rfl (by kernel_rfl) #[wv (h0 0), wv (h0 1), wv (h0 2), wv (h0 3), wv (h0 4), wv (h0 5), wv (h0 6), wv (h0 7)] rfl ?_)
    | (refine wpList_build_as rfl 135 #[(0, .tmp 1)] rfl [(0, agg8')] rfl _ (built_dig m) ?_))
  go_ret
  exact ⟨w.heap.size, rfl, Nat.le_refl _, dig_start m w, (Below.refl _ _).alloc (Nat.le_refl _) _⟩

/-- Bytes as a value. -/
abbrev u8v (f : Nat → Nat) : Nat → Value := fun i => .int .u8 ((f i : Nat) : Int)
/-- 32 bytes as a value. -/
abbrev rootV (f : Nat → Nat) : Value := .agg (arr 32 (u8v f))
theorem row_zero32 (w : World) : (w.alloc (.cells (Array.replicate 32 (.int .u8 0)) 24)).rowIs w.heap.size 24 32 (u8v fun _ => 0) := by
  have := World.rowIs_alloc w (Array.replicate 32 (.int .u8 0)) 24 (u8v fun _ => 0) (fun i hi => by simp at hi; simp [hi])
  simpa using this

theorem root_0 (H : Nat → W32) (k : Nat) : Value.int .u8 (((H k).toNat : Int) / 16777216) = .int .u8 ((rootOf H (4 * k) : Nat) : Int) := by
  have h := (H k).isLt
  have e : rootOf H (4 * k) = (H k).toNat / 16777216 := by
    unfold rootOf
    rw [show 4 * k / 4 = k by omega, show 24 - 8 * (4 * k % 4) = 24 by omega, BitVec.toNat_ushiftRight, Nat.shiftRight_eq_div_pow]
    omega
  rw [e]; congr 1
theorem root_1 (H : Nat → W32) (k : Nat) : Value.int .u8 (((H k).toNat : Int) / 65536 % 256) = .int .u8 ((rootOf H (4 * k + 1) : Nat) : Int) := by
  have e : rootOf H (4 * k + 1) = (H k).toNat / 65536 % 256 := by
    unfold rootOf
    rw [show (4 * k + 1) / 4 = k by omega, show 24 - 8 * ((4 * k + 1) % 4) = 16 by omega, BitVec.toNat_ushiftRight, Nat.shiftRight_eq_div_pow]
  rw [e]; congr 1
theorem root_2 (H : Nat → W32) (k : Nat) : Value.int .u8 (((H k).toNat : Int) / 256 % 256) = .int .u8 ((rootOf H (4 * k + 2) : Nat) : Int) := by
  have e : rootOf H (4 * k + 2) = (H k).toNat / 256 % 256 := by
    unfold rootOf
    rw [show (4 * k + 2) / 4 = k by omega, show 24 - 8 * ((4 * k + 2) % 4) = 8 by omega, BitVec.toNat_ushiftRight, Nat.shiftRight_eq_div_pow]
  rw [e]; congr 1
theorem root_3 (H : Nat → W32) (k : Nat) : Value.int .u8 (((H k).toNat : Int) % 256) = .int .u8 ((rootOf H (4 * k + 3) : Nat) : Int) := by
  have e : rootOf H (4 * k + 3) = (H k).toNat % 256 := by
    unfold rootOf
    rw [show (4 * k + 3) / 4 = k by omega, show 24 - 8 * ((4 * k + 3) % 4) = 0 by omega, BitVec.toNat_ushiftRight, Nat.shiftRight_eq_div_pow]
    simp
  rw [e]; congr 1

set_option maxHeartbeats 1000000 in
theorem root_any (g o : Nat) (H : Nat → W32) (w : World) (hH : ∀ i, i < 8 → w.cell? ⟨g, o + i, none⟩ = some (wv (H i))) :
    Calls Tryd.prog 79 #[.pointer (some ⟨g, o, none⟩)] w fun e w' => e = .returned (rootV (rootOf H)) ∧ Below w.heap.size w w' := by
  have HH := Lib.hid hH
  have hg : g < w.heap.size := cell_lt0 (hH 0 (by omega))
  have HS0 := Lib.hid (((HS.nil w).alloc (Array.replicate 32 (.int .u8 0)) 24 32 (u8v fun _ => 0) (by simp) (fun i hi => rep_at _ _ i hi)).alloc (Array.replicate 32 (.int .u8 0)) 24 32 (u8v fun _ => 0) (by simp) (fun i hi => rep_at _ _ i hi))
  rw [alloc_sz] at HS0
  clear hH
  go_enter Tryd.func79, Tryd.ntmps79
  go_wp2
  go_loopw [7] (fun i wr => ∃ k : Nat, k ≤ 8 ∧ i = .int .i64 k ∧ HS w wr [⟨w.heap.size + 1, 24, 32, u8v fun j => if j < 4 * k then rootOf H j else 0⟩, ⟨w.heap.size, 24, 32, u8v fun _ => 0⟩]) (fun i _ => 8 - (intOf i).toNat)
  case atStart => exact ⟨0, by omega, rfl, HS0.out⟩
  case round =>
    obtain ⟨k, hk, rfl, hs⟩ := hrel
    by_cases hk8 : k < 8
    · have hc : wr.cell? ⟨g, o + k, none⟩ = some (wv (H k)) := (hs.old (Nat.le_refl _) (by simp)).cell (p := ⟨g, o + k, none⟩) hg |>.trans (HH.out k hk8)
      have hd : ∀ i, i < 32 → wr.cell? ⟨w.heap.size + 1, i, none⟩ = some (u8v (fun j => if j < 4 * k then rootOf H j else 0) i) := fun i hi => hs.cell 0 i rfl hi
      have hf : ∀ i, wr.frozen? ⟨w.heap.size + 1, i, none⟩ = false := fun i => hs.frozen 0 i rfl
      have hd0 := hd (4 * k) (by omega)
      have hd1 := hd (4 * k + 1) (by omega)
      have hd2 := hd (4 * k + 2) (by omega)
      have hd3 := hd (4 * k + 3) (by omega)
      have HSx := Lib.hid hs
      clear hs hd
      go_wp2
      go_quiet (fail)
      go_wp2
      go_roundw
      case rel =>
        refine ⟨k + 1, by omega, by go_num, ?_⟩
        rw [root_0, root_1, root_2, root_3]
        refine (((((HSx.out.drewN _).set 0 (4 * k) rfl _).set 0 (4 * k + 1) rfl _).set 0 (4 * k + 2) rfl _).set 0 (4 * k + 3) rfl _).congr 0 rfl (fun j _ => ?_)
        by_cases e3 : j = 4 * k + 3
        · subst e3; simp [u8v, show 4 * k + 3 < 4 * (k + 1) by omega]
        · by_cases e2 : j = 4 * k + 2
          · subst e2; simp [u8v, show 4 * k + 2 < 4 * (k + 1) by omega]
          · by_cases e1 : j = 4 * k + 1
            · subst e1; simp [u8v, show 4 * k + 1 < 4 * (k + 1) by omega]
            · by_cases e0 : j = 4 * k
              · subst e0; simp [u8v, show 4 * k < 4 * (k + 1) by omega]
              · by_cases e : j < 4 * k
                · simp [u8v, e, e0, e1, e2, e3, show j < 4 * (k + 1) by omega]
                · simp [u8v, e, e0, e1, e2, e3, show ¬ j < 4 * (k + 1) by omega]
      case measure => simp [intOf]; omega
    · obtain rfl : k = 8 := by omega
      have HSx := Lib.hid hs
      obtain ⟨cz, hcz, hzs, hzc⟩ := hs.heap 1 rfl
      have HR := Lib.hid (hs.row 1 rfl)
      have HX := Lib.hid (heap_arr (hs.row 0 rfl))
      clear hs hcz hzs hzc
      go_wp2_with (first
        | (refine wpList_load_row rfl 24 (.tmp 3) rfl (w.heap.size + 1) rfl 24 _ _ _ HX.out Tryd.underlying24 rfl (by kernel_rfl) ?_)
        | (refine wpList_store_arr rfl 24 (.tmp 2) (.tmp 40) rfl HR.out _ rfl rfl (size_arr _ _) (by kernel_rfl) (fun i hi => ⟨_, arr_at _ _ i hi, rfl⟩) ?_))
      have hend := HSx.out.setRow 1 rfl (arr 32 (u8v fun j => if j < 32 then rootOf H j else 0)) (size_arr _ _) _ (fun i hi => arr_at _ _ i hi)
      refine ret_rowIs rfl (hend.row 1 rfl) _ rfl Tryd.underlying24 rfl (by kernel_rfl) rfl ⟨?_, hend.out (by simp)⟩
      rw [arr_congr (g := u8v (rootOf H)) (fun i hi => by simp [u8v, hi])]
end Go.Proofs.YtjhgndnpihnidaaDoor
/- The walk of Write. (Printed by a program of mine.) -/
namespace Go.Proofs.YtjhgndnpihnidaaDoor
set_option maxRecDepth 40000
open Go.RowKit

/-- A digest of the first len bytes of m. -/
def Dig (w : World) (g : Nat) (m : Nat → Nat) (len : Nat) : Prop :=
  ∃ q r y, len = 64 * q + r ∧ r < 64 ∧ (∀ j, j < r → y j = m (64 * q + j)) ∧ (∀ j, y j < 256) ∧ w.rowIs g 135 74 (digG (Hs m q) y r len)
theorem Dig.lt {w : World} {g : Nat} {m : Nat → Nat} {len : Nat} (h : Dig w g m len) : g < w.heap.size := by
  obtain ⟨_, _, _, _, _, _, _, h⟩ := h; exact h.lt
theorem Dig.of_block {w w' : World} {g : Nat} {m : Nat → Nat} {len : Nat} (h : Dig w g m len) (hb : w'.heap[g]? = w.heap[g]?) : Dig w' g m len := by
  obtain ⟨q, r, y, h1, h2, h3, h4, h5⟩ := h; exact ⟨q, r, y, h1, h2, h3, h4, h5.of_block hb⟩
theorem Dig.below {w w' : World} {g B : Nat} {m : Nat → Nat} {len : Nat} (h : Dig w g m len) (hb : Below B w w') (hg : g < B) : Dig w' g m len := h.of_block (hb.block g hg)
theorem Dig.congr {w : World} {g : Nat} {m m' : Nat → Nat} {len : Nat} (h : Dig w g m len) (e : ∀ i, i < len → m i = m' i) : Dig w g m' len := by
  obtain ⟨q, r, y, rfl, h2, h3, h4, h5⟩ := h
  exact ⟨q, r, y, rfl, h2, fun j hj => (h3 j hj).trans (e _ (by omega)), h4, by rw [← Hs_congr m m' q (fun i hi => e i (by omega))]; exact h5⟩
theorem dig_new (m : Nat → Nat) {w : World} {g : Nat} (h : w.rowIs g 135 74 (digF m 0 (fun _ => 0))) : Dig w g m 0 :=
  ⟨0, 0, fun _ => 0, rfl, by omega, fun j hj => absurd hj (by omega), fun _ => (by decide : 0 < 256), by rw [digF_G] at h; exact h⟩
theorem run_ldint (w : World) (a : Addr) (v : Int) (h : w.cell? a = some (.int .i64 v)) : (Instr.loadAt 3 (.pointer (some a))).run Tryd.prog w = .ok (.int .i64 v) w := by
  simp [go_sem, h]
theorem digG_72 (H : Nat → W32) (y : Nat → Nat) (r all : Nat) : digG H y r all 72 = .int .i64 (r : Int) := rfl
theorem digG_73 (H : Nat → W32) (y : Nat → Nat) (r all : Nat) : digG H y r all 73 = .int .u64 ((all % 18446744073709551616 : Nat) : Int) := rfl
theorem digG_all (H : Nat → W32) (y : Nat → Nat) (r a b : Nat) (v : Value) (hv : v = .int .u64 ((b % 18446744073709551616 : Nat) : Int)) : ∀ j, j < 74 → (if j = 73 then v else digG H y r a j) = digG H y r b j := fun j hj => by
  by_cases e : j = 73
  · subst e; rw [if_pos rfl, hv, digG_73]
  · rw [if_neg e]; unfold digG
    by_cases e1 : j < 8
    · rw [if_pos e1, if_pos e1]
    · by_cases e2 : j < 72
      · rw [if_neg e1, if_neg e1, if_pos e2, if_pos e2]
      · rw [if_neg e1, if_neg e1, if_neg e2, if_neg e2, if_pos (by omega), if_pos (by omega)]
theorem digG_n (H : Nat → W32) (y : Nat → Nat) (r r' a : Nat) (v : Value) (hv : v = .int .i64 (r' : Int)) : ∀ j, j < 74 → (if j = 72 then v else digG H y r a j) = digG H y r' a j := fun j hj => by
  by_cases e : j = 72
  · subst e; rw [if_pos rfl, hv, digG_72]
  · rw [if_neg e]; unfold digG
    by_cases e1 : j < 8
    · rw [if_pos e1, if_pos e1]
    · by_cases e2 : j < 72
      · rw [if_neg e1, if_neg e1, if_pos e2, if_pos e2]
      · rw [if_neg e1, if_neg e1, if_neg e2, if_neg e2, if_neg e, if_neg e]
/-- The rest with k bytes of x from place r on. -/
def layAt (r k : Nat) (x y : Nat → Nat) : Nat → Nat := fun j => if r ≤ j ∧ j < r + k then x (j - r) else y j
theorem layAt_lt {r k : Nat} {x y : Nat → Nat} (hx : ∀ i, x i < 256) (hy : ∀ i, y i < 256) (j : Nat) : layAt r k x y j < 256 := by
  unfold layAt; split
  · exact hx _
  · exact hy _
theorem digG_lay (H : Nat → W32) (x y : Nat → Nat) (r k n a o : Nat) (ho : o = 8 + r) (hk : r + k ≤ 64) : ∀ j, j < 74 → (if o ≤ j ∧ j < o + k then u8v x (j - o) else digG H y n a j) = digG H (layAt r k x y) n a j := fun j hj => by
  subst ho
  by_cases e : 8 + r ≤ j ∧ j < 8 + r + k
  · rw [if_pos e]; unfold digG layAt
    rw [if_neg (by omega), if_pos (by omega), if_pos (by omega), show j - 8 - r = j - (8 + r) by omega]
  · rw [if_neg e]; unfold digG layAt
    by_cases e1 : j < 8
    · rw [if_pos e1, if_pos e1]
    · by_cases e2 : j < 72
      · rw [if_neg e1, if_neg e1, if_pos e2, if_pos e2, if_neg (by omega)]
      · rw [if_neg e1, if_neg e1, if_neg e2, if_neg e2]
theorem digG_h (H H' : Nat → W32) (y : Nat → Nat) (n a : Nat) : ∀ j, j < 74 → (if 0 ≤ j ∧ j < 0 + 8 then wv (H' (j - 0)) else digG H y n a j) = digG H' y n a j := fun j hj => by
  unfold digG
  by_cases e1 : j < 8
  · rw [if_pos (by omega), if_pos e1]; rfl
  · rw [if_neg (by omega), if_neg e1, if_neg e1]
theorem all_add (a n : Nat) (_hn : n ≤ 140737488355328) : (((a % 18446744073709551616 : Nat) : Int) + (n : Int)) % 18446744073709551616 = (((a + n) % 18446744073709551616 : Nat) : Int) := by omega

theorem lay_cat (q r k : Nat) (m x y : Nat → Nat) (hy : ∀ j, j < r → y j = m (64 * q + j)) : ∀ j, j < r + k → layAt r k x y j = catN (64 * q + r) m x (64 * q + j) := fun j hj => by
  unfold layAt catN
  by_cases e : j < r
  · rw [if_neg (by omega), if_pos (by omega), hy j e]
  · rw [if_pos (by omega), if_neg (by omega), show 64 * q + j - (64 * q + r) = j - r by omega]
theorem Hs_cat (q r : Nat) (m x : Nat → Nat) : Hs m q = Hs (catN (64 * q + r) m x) q := Hs_congr _ _ q (fun i hi => by unfold catN; rw [if_pos (by omega)])
theorem digG_lo (H : Nat → W32) (y : Nat → Nat) (r a i : Nat) (h : i < 8) : digG H y r a (0 + i) = wv (H i) := by unfold digG; rw [Nat.zero_add, if_pos h]
theorem digG_rest (H : Nat → W32) (y : Nat → Nat) (r a i : Nat) (h : i < 64) : digG H y r a (8 + i) = u8v y i := by
  unfold digG; rw [if_neg (by omega), if_pos (by omega), show 8 + i - 8 = i by omega]
theorem ent_mix (vs : Array Value) (w : World) : (callFunc 78 vs).run Tryd.prog w = .ok (.enter 78 vs) w := by kernel_rfl

set_option maxHeartbeats 2000000 in
/-- What comes fits into the rest. -/
theorem write_small (g q r n c : Nat) (A : Option Addr) (m x y : Nat → Nat) (w : World)
    (hrow : w.rowIs g 135 74 (digG (Hs m q) y r (64 * q + r))) (hy : ∀ j, j < r → y j = m (64 * q + j)) (hy2 : ∀ j, y j < 256) (hr : r < 64) (hb : Rd w w.heap.size A n (u8v x)) (hA : Apt A n g) (hx : ∀ i, x i < 256) (_hm : ∀ i, m i < 256)
    (hn : n ≤ 140737488355328) (hnc : n ≤ c) (_hp : ShaPkg w) (_hg : 0 < g ∧ 3 < g) (hr0 : 0 < r) (hfit : r + n < 64) :
    Calls Tryd.prog 63 #[.pointer (some ⟨g, 0, none⟩), .slice A n c] w fun e w' => e = .returned (.tuple #[]) ∧ Dig w' g (catN (64 * q + r) m x) (64 * q + r + n) ∧ w.grownBy w' (some g) := by
  have hglt := hrow.lt
  have hs0 := HS.own hrow
  have c72 := hs0.cell 0 72 rfl (by show 72 < 74; omega)
  have c73 := hs0.cell 0 73 rfl (by show 73 < 74; omega)
  have f72 := hs0.frozen 0 72 rfl
  have f73 := hs0.frozen 0 73 rfl
  rw [digG_72] at c72
  rw [digG_73] at c73
  have hadd := all_add (64 * q + r) n hn
  have HS0 := Lib.hid hs0
  have HB := Lib.hid hb
  have HA := Lib.hid hA
  have HY := Lib.hid hy
  have HY2 := Lib.hid hy2
  have HX := Lib.hid hx
  have HADD := Lib.hid hadd
  clear hrow hs0 hb hA hy hy2 hx _hm _hp hadd
  go_enter Tryd.func63, Tryd.ntmps63
  go_wp2_with fail
  refine HS.go (w0 := w) (rows := [⟨g, 135, 74, digG (Hs m q) y r (64 * q + r + n)⟩]) (by exact (HS0.out.set 0 73 rfl _).congr 0 rfl (digG_all _ _ _ _ _ _ (by congr 1; first | omega | (rw [IntKind.wrap_u64]; omega)))) (fun w1 hs => ?_)
  have hg1 : g < w1.heap.size := hs.lt 0 rfl
  have c72 := hs.cell 0 72 rfl (by show 72 < 74; omega)
  rw [digG_72] at c72
  refine wp_region_factsS (l := [_, _, _, _, _, _, _, _, _]) (tl := [_]) (B := w1.heap.size) (w0 := w1) [SF.is (.pointer (some ⟨g, 0, none⟩)), SF.is (.pointer (some ⟨g, 0, none⟩)), SF.is (.pointer (some ⟨g, 8, none⟩)), SF.is (.pointer (some ⟨g, 0, none⟩)), SF.is (.pointer (some ⟨g, 0, none⟩)), SF.is (.pointer (some ⟨g, 72, none⟩)), SF.is (.int .i64 ((r : Nat) : Int)), SF.is (.slice (some ⟨g, 8 + r, none⟩) (64 - r) (64 - r)), SF.is (.slice (A) (n) (c))] (by kernel_rfl) (by kernel_rfl) rfl (Nat.le_refl _) (Below.refl _ _) ⟨?_, ?_, ?_, ?_, ?_, ?_, ?_, ?_, ?_, trivial⟩ ?_
  · exact (opOb_move _ rfl (.inl rfl) rfl)
  · exact opOb_nil _ rfl rfl (OpK.tmp rfl)
  · exact opOb_fld rfl rfl (OpK.tmp rfl) (fun w => by simp [go_sem])
  · exact (opOb_move _ rfl (.inl rfl) rfl)
  · exact opOb_nil _ rfl rfl (OpK.tmp rfl)
  · exact opOb_fld rfl rfl (OpK.tmp rfl) (fun w => by simp [go_sem])
  · exact opOb_ld rfl rfl (OpK.tmp rfl) (fun w' hb => run_ldint w' _ _ ((hb.cell (p := ⟨g, 72, none⟩) hg1).trans c72))
  · exact opOb_slc rfl rfl (OpK.tmp rfl) (OpKo.tmp rfl) (OpKo.no) (fun w => cut_arr Tryd.underlying132 1 (by kernel_rfl) (some _) none (r) (64) (.inr rfl) (.inl ⟨rfl, rfl⟩) (by omega) (by omega) (by omega) (by omega) (by omega) (by omega))
  · exact (opOb_move _ rfl (.inl rfl) rfl)
  · intro w' hb
    simp only [fin, SF.is, forall_eq]
    simp only [Act.put, List.setIfInBounds_toArray, List.set_cons_succ, List.set_cons_zero]
    have hs1 := hs.below hb
    refine wp_copy_fn rfl Tryd.underlying39 (by kernel_rfl) (hs1.row 0 rfl) (8 + r) (64 - r) (64 - r) (HB.out.hs hs1 (Nat.le_refl _) (fun h0 ad e => by simp; exact fun h => HA.out h0 ad e h.symm)) (fun _ _ => rfl) n (by omega) (show _ ≤ 74 by omega) rfl rfl (fun w2 hr2 hg2 => ?_)
    have hs2 := (hs1.write 0 rfl hg2 hr2).congr 0 rfl (digG_lay _ _ _ r n r _ _ rfl (by omega))
    have c72 := hs2.cell 0 72 rfl (by show 72 < 74; omega)
    rw [digG_72] at c72
    have f72 := hs2.frozen 0 72 rfl
    have HS2 := Lib.hid hs2
    clear hs hs1 hb hr2 hg2 hs2 hg1
    simp only [seqWp]
    refine wp_asg _ (.inl rfl) rfl ?_
    obtain ⟨A', hcut, -⟩ := cut_from (P := Tryd.prog) Tryd.underlying39 (by kernel_rfl) A n c n (Nat.le_refl _) hnc
    go_wp2_with fail
    have hs := (HS2.out.set 0 72 rfl _).congr 0 rfl (digG_n _ _ _ (r + n) _ _ rfl)
    exact bodyPost_ret (v := .tuple #[]) (by simp [results, Tryd.results63, go_sem]) rfl ⟨rfl, ⟨q, r + n, layAt r n x y, by omega, hfit, fun j hj => lay_cat q r n m x y HY.out j hj, fun j => layAt_lt HX.out HY2.out j, by rw [← Hs_cat]; exact hs.row 0 rfl⟩, hs.grown g (fun r hr => by simp at hr; subst hr; exact .inr rfl)⟩

set_option maxHeartbeats 4000000 in
/-- The rest is filled up, and more. -/
theorem write_fill (g q r n c : Nat) (A : Option Addr) (m x y : Nat → Nat) (w : World)
    (hrow : w.rowIs g 135 74 (digG (Hs m q) y r (64 * q + r))) (hy : ∀ j, j < r → y j = m (64 * q + j)) (hy2 : ∀ j, y j < 256) (hr : r < 64) (hb : Rd w w.heap.size A n (u8v x)) (hA : Apt A n g) (hx : ∀ i, x i < 256) (hm : ∀ i, m i < 256)
    (hn : n ≤ 140737488355328) (hnc : n ≤ c) (hp : ShaPkg w) (hg : 0 < g ∧ 3 < g) (hr0 : 0 < r) (hfit : 64 ≤ r + n) :
    Calls Tryd.prog 63 #[.pointer (some ⟨g, 0, none⟩), .slice A n c] w fun e w' => e = .returned (.tuple #[]) ∧ Dig w' g (catN (64 * q + r) m x) (64 * q + r + n) ∧ w.grownBy w' (some g) := by
  have hglt := hrow.lt
  have hs0 := HS.own hrow
  have c72 := hs0.cell 0 72 rfl (by show 72 < 74; omega)
  have c73 := hs0.cell 0 73 rfl (by show 73 < 74; omega)
  have f72 := hs0.frozen 0 72 rfl
  have f73 := hs0.frozen 0 73 rfl
  rw [digG_72] at c72
  rw [digG_73] at c73
  obtain ⟨M, hMd⟩ : ∃ M, M = catN (64 * q + r) m x := ⟨_, rfl⟩
  have hM : ∀ i, M i < 256 := fun i => by rw [hMd]; exact catN_lt hm hx i
  have HQ := Lib.hid (show Hs m q = Hs M q by rw [hMd]; exact Hs_cat q r m x)
  have HL := Lib.hid (show comp (Hs M q) (layAt r (64 - r) x y) = Hs M (q + 1) from comp_congr _ _ _ (fun i hi => by rw [hMd]; exact lay_cat q r (64 - r) m x y hy i (by omega)))
  have hxM : ∀ i, i < n → u8v x i = u8v (fun i => M (64 * q + r + i)) i := fun i _ => by
    simp only [u8v]
    rw [hMd]; unfold catN; rw [if_neg (by omega), show 64 * q + r + i - (64 * q + r) = i by omega]
  have HB := Lib.hid (hb.congr hxM)
  have HBx := Lib.hid hb
  have HA := Lib.hid hA
  have HY2 := Lib.hid hy2
  have HX := Lib.hid hx
  have HM := Lib.hid hM
  have HP := Lib.hid hp
  have HS0 := Lib.hid hs0
  rw [← hMd]
  clear hrow hs0 hb hA hy hy2 hx hm hp hxM hMd hM
  go_enter Tryd.func63, Tryd.ntmps63
  go_wp2_with fail
  refine HS.go (w0 := w) (rows := [⟨g, 135, 74, digG (Hs M q) y r (64 * q + r + n)⟩]) (by rw [← HQ.out]; exact (HS0.out.set 0 73 rfl _).congr 0 rfl (digG_all _ _ _ _ _ _ (by congr 1; first | omega | (rw [IntKind.wrap_u64]; omega)))) (fun w1 hs => ?_)
  have hg1 : g < w1.heap.size := hs.lt 0 rfl
  have c72 := hs.cell 0 72 rfl (by show 72 < 74; omega)
  rw [digG_72] at c72
  refine wp_region_factsS (l := [_, _, _, _, _, _, _, _, _]) (tl := [_]) (B := w1.heap.size) (w0 := w1) [SF.is (.pointer (some ⟨g, 0, none⟩)), SF.is (.pointer (some ⟨g, 0, none⟩)), SF.is (.pointer (some ⟨g, 8, none⟩)), SF.is (.pointer (some ⟨g, 0, none⟩)), SF.is (.pointer (some ⟨g, 0, none⟩)), SF.is (.pointer (some ⟨g, 72, none⟩)), SF.is (.int .i64 ((r : Nat) : Int)), SF.is (.slice (some ⟨g, 8 + r, none⟩) (64 - r) (64 - r)), SF.is (.slice (A) (n) (c))] (by kernel_rfl) (by kernel_rfl) rfl (Nat.le_refl _) (Below.refl _ _) ⟨?_, ?_, ?_, ?_, ?_, ?_, ?_, ?_, ?_, trivial⟩ ?_
  · exact (opOb_move _ rfl (.inl rfl) rfl)
  · exact opOb_nil _ rfl rfl (OpK.tmp rfl)
  · exact opOb_fld rfl rfl (OpK.tmp rfl) (fun w => by simp [go_sem])
  · exact (opOb_move _ rfl (.inl rfl) rfl)
  · exact opOb_nil _ rfl rfl (OpK.tmp rfl)
  · exact opOb_fld rfl rfl (OpK.tmp rfl) (fun w => by simp [go_sem])
  · exact opOb_ld rfl rfl (OpK.tmp rfl) (fun w' hb => run_ldint w' _ _ ((hb.cell (p := ⟨g, 72, none⟩) hg1).trans c72))
  · exact opOb_slc rfl rfl (OpK.tmp rfl) (OpKo.tmp rfl) (OpKo.no) (fun w => cut_arr Tryd.underlying132 1 (by kernel_rfl) (some _) none (r) (64) (.inr rfl) (.inl ⟨rfl, rfl⟩) (by omega) (by omega) (by omega) (by omega) (by omega) (by omega))
  · exact (opOb_move _ rfl (.inl rfl) rfl)
  · intro w' hb
    simp only [fin, SF.is, forall_eq]
    simp only [Act.put, List.setIfInBounds_toArray, List.set_cons_succ, List.set_cons_zero]
    have hs1 := hs.below hb
    refine wp_copy_fn rfl Tryd.underlying39 (by kernel_rfl) (hs1.row 0 rfl) (8 + r) (64 - r) (64 - r) (HBx.out.hs hs1 (Nat.le_refl _) (fun h0 ad e => by simp; exact fun h => HA.out h0 ad e h.symm)) (fun _ _ => rfl) (64 - r) (by omega) (show _ ≤ 74 by omega) rfl rfl (fun w2 hr2 hg2 => ?_)
    have hs2 := (hs1.write 0 rfl hg2 hr2).congr 0 rfl (digG_lay _ _ _ r (64 - r) r _ _ rfl (by omega))
    have c72 := hs2.cell 0 72 rfl (by show 72 < 74; omega)
    rw [digG_72] at c72
    have f72 := hs2.frozen 0 72 rfl
    have HS2 := Lib.hid hs2
    clear hs hs1 hb hr2 hg2 hs2 hg1
    simp only [seqWp]
    refine wp_asg _ (.inl rfl) rfl ?_
    obtain ⟨A', hcut, hcut2⟩ := cut_from (P := Tryd.prog) Tryd.underlying39 (by kernel_rfl) A n c (64 - r) (by omega) hnc
    have HC := Lib.hid hcut2
    clear hcut2
    have hge : ¬ ((r : Int) + ((64 - r : Nat) : Int)) < 64 := by omega
    go_wp2_with fail
    refine HS.go (w0 := w) (rows := [⟨g, 135, 74, digG (Hs M q) (layAt r (64 - r) x y) 64 (64 * q + r + n)⟩]) (by exact (HS2.out.set 0 72 rfl _).congr 0 rfl (digG_n _ _ _ 64 _ _ (by congr 1; omega))) (fun w3 hs => ?_)
    have hg1 : g < w3.heap.size := hs.lt 0 rfl
    refine wp_region_factsS (l := [_, _, _, _, _, _, _]) (tl := []) (B := w3.heap.size) (w0 := w3) [SF.is (.pointer (some ⟨g, 0, none⟩)), SF.is (.pointer (some ⟨g, 0, none⟩)), SF.is (.pointer (some ⟨g, 0, none⟩)), SF.is (.pointer (some ⟨g, 0, none⟩)), SF.is (.pointer (some ⟨g, 0, none⟩)), SF.is (.pointer (some ⟨g, 8, none⟩)), SF.is (.slice (some ⟨g, 8, none⟩) (64) (64))] (by kernel_rfl) (by kernel_rfl) rfl (Nat.le_refl _) (Below.refl _ _) ⟨?_, ?_, ?_, ?_, ?_, ?_, ?_, trivial⟩ ?_
    · exact (opOb_move _ rfl (.inl rfl) rfl)
    · exact opOb_nil _ rfl rfl (OpK.tmp rfl)
    · exact opOb_fld rfl rfl (OpK.tmp rfl) (fun w => by simp [go_sem])
    · exact (opOb_move _ rfl (.inl rfl) rfl)
    · exact opOb_nil _ rfl rfl (OpK.tmp rfl)
    · exact opOb_fld rfl rfl (OpK.tmp rfl) (fun w => by simp [go_sem])
    · exact opOb_slc rfl rfl (OpK.tmp rfl) (OpKo.no) (OpKo.no) (fun w => cut_arr Tryd.underlying132 1 (by kernel_rfl) none none (0) (64) (.inl ⟨rfl, rfl⟩) (.inl ⟨rfl, rfl⟩) (by omega) (by omega) (by omega) (by omega) (by omega) (by omega))
    · intro w' hb
      simp only [fin, SF.is, forall_eq]
      simp only [Act.put, List.setIfInBounds_toArray, List.set_cons_succ, List.set_cons_zero]
      have hs3 := hs.below hb
      refine wp_fn ent_mix #[.pointer (some ⟨g, 0, none⟩), .slice (some ⟨g, 8, none⟩) 64 64] rfl rfl ?_
      refine (mix_any g 0 64 64 w'.heap.size (some ⟨g, 8, none⟩) 135 74 _ (Hs M q) (layAt r (64 - r) x y) w' (hs3.row 0 rfl) (by decide) (fun i hi => digG_lo _ _ _ _ i hi) (fun i => layAt_lt HX.out HY2.out i) (Rd.of_part (hs3.row 0 rfl) (show 8 + 64 ≤ 74 by decide) (fun i hi => digG_rest _ _ _ _ i hi)) (Nat.le_refl _) (Nat.le_refl _) (by omega)
        (HP.out.keep fun b hb hb2 => hs3.block b hb (fun r hr => by simp at hr; subst hr; rcases hb2 with rfl | rfl <;> (show g ≠ _; omega))).round).mono ?_
      rintro e w4 ⟨rfl, hr4, hg4⟩
      have hs4 := (hs3.write 0 rfl hg4 hr4).congr 0 rfl (digG_h _ _ _ _ _)
      have HS4 := Lib.hid hs4
      have c72 := hs4.cell 0 72 rfl (by show 72 < 74; omega)
      rw [digG_72] at c72
      have f72 := hs4.frozen 0 72 rfl
      clear hs hs3 hb hr4 hg4 hs4 hg1
      refine ⟨_, rfl, ?_⟩
      simp only [seqWp]
      have HR0 := Lib.hid (show Rd w w.heap.size A' (n - (64 - r)) (u8v fun i => M (64 * (q + 1) + i)) from (HC.out.rd HB.out).congr (fun i _ => congrArg (fun k => Value.int .u8 ((M k : Nat) : Int)) (show 64 * q + r + (64 - r + i) = 64 * (q + 1) + i by omega)))
      have HA0 := Lib.hid (HC.out.apart HA.out)
      have HL2 := Lib.hid HL.out
      go_wp2_with fail
      go_loopw [1] (fun s wr => ∃ (Qn rem : Nat) (Aj : Option Addr) (cj : Nat) (z : Nat → Nat), s = .slice Aj rem cj ∧ 64 * Qn + rem = 64 * q + r + n ∧ rem ≤ cj ∧ rem ≤ 140737488355328 ∧ Rd w w.heap.size Aj rem (u8v fun i => M (64 * Qn + i)) ∧ Apt Aj rem g ∧ (∀ j, z j < 256) ∧ HS w wr [⟨g, 135, 74, digG (Hs M Qn) z 0 (64 * q + r + n)⟩]) (fun s _ => match s with | .slice _ k _ => k | _ => 0)
      case atStart => exact ⟨q + 1, n - (64 - r), A', c - (64 - r), layAt r (64 - r) x y, rfl, by omega, by omega, by omega, HR0.out, HA0.out, fun j => layAt_lt HX.out HY2.out j, by rw [← HL2.out]; exact (HS4.out.set 0 72 rfl _).congr 0 rfl (digG_n _ _ _ 0 _ _ rfl)⟩
      case round =>
        clear HS0
        obtain ⟨Qn, rem, Aj, cj, z, rfl, hrem, hrc, hrn, hbj, hAj, hz, hs⟩ := hrel
        by_cases h64 : 64 ≤ rem
        · have hg1 : g < wr.heap.size := hs.lt 0 rfl
          have HSr := Lib.hid hs
          have HBj := Lib.hid hbj
          have HAj := Lib.hid hAj
          have HZ := Lib.hid hz
          clear hs hbj hAj hz
          go_wp2_with fail
          have hs := HSr.out
          refine wp_region_factsS (l := [_, _, _, _, _]) (tl := []) (B := wr.heap.size) (w0 := wr) [SF.is (.pointer (some ⟨g, 0, none⟩)), SF.is (.pointer (some ⟨g, 0, none⟩)), SF.is (.pointer (some ⟨g, 0, none⟩)), SF.is (.slice (Aj) (rem) (cj)), SF.is (.slice (Aj) (64) (cj))] (by kernel_rfl) (by kernel_rfl) rfl (Nat.le_refl _) (Below.refl _ _) ⟨?_, ?_, ?_, ?_, ?_, trivial⟩ ?_
          · exact (opOb_move _ rfl (.inl rfl) rfl)
          · exact opOb_nil _ rfl rfl (OpK.tmp rfl)
          · exact opOb_fld rfl rfl (OpK.tmp rfl) (fun w => by simp [go_sem])
          · exact (opOb_move _ rfl (.inl rfl) rfl)
          · exact opOb_slc rfl rfl (OpK.tmp rfl) OpKo.no OpKo.const (fun w => cut_to Tryd.underlying39 (by kernel_rfl) Aj rem cj 64 (by omega) w)
          · intro w' hb
            simp only [fin, SF.is, forall_eq]
            simp only [Act.put, List.setIfInBounds_toArray, List.set_cons_succ, List.set_cons_zero]
            have hs3 := hs.below hb
            refine wp_fn ent_mix #[.pointer (some ⟨g, 0, none⟩), .slice Aj 64 cj] rfl rfl ?_
            refine (mix_any g 0 64 cj w.heap.size Aj 135 74 _ (Hs M Qn) (fun i => M (64 * Qn + i)) w' (hs3.row 0 rfl) (by decide) (fun i hi => digG_lo _ _ _ _ i hi) (fun i => HM.out _) ((HBj.out.short h64).hs hs3 (Nat.le_refl _) (fun _ ad e => by simp; exact fun h => HAj.out (by omega) ad e h.symm)) hs3.size (Nat.le_refl _) (by omega)
              (HP.out.keep fun b hb hb2 => hs3.block b hb (fun r hr => by simp at hr; subst hr; rcases hb2 with rfl | rfl <;> (show g ≠ _; omega))).round).mono ?_
            rintro e w4 ⟨rfl, hr4, hg4⟩
            have hs4 := (hs3.write 0 rfl hg4 hr4).congr 0 rfl (digG_h _ (Hs M (Qn + 1)) _ _ _)
            have HS4 := Lib.hid hs4
            clear hs hs3 hb hr4 hg4 hs4 hg1
            refine ⟨_, rfl, ?_⟩
            simp only [seqWp]
            obtain ⟨A2, hcut0, hcut2⟩ := cut_from (P := Tryd.prog) Tryd.underlying39 (by kernel_rfl) Aj rem cj 64 h64 hrc
            have hcut : ∀ w : World, (Instr.sliceAt 39 (.slice Aj rem cj) (some (.int .i64 64)) none none).run Tryd.prog w = .ok (.slice A2 (rem - 64) (cj - 64)) w := hcut0
            clear hcut0
            have HC := Lib.hid hcut2
            clear hcut2
            go_wp2_with fail
            go_roundw
            case rel => exact ⟨Qn + 1, rem - 64, A2, cj - 64, z, rfl, by omega, by omega, by omega, (HC.out.rd HBj.out).congr (fun i _ => congrArg (fun k => Value.int .u8 ((M k : Nat) : Int)) (show 64 * Qn + (64 + i) = 64 * (Qn + 1) + i by omega)), HC.out.apart HAj.out, HZ.out, HS4.out⟩
            case measure => show rem - 64 < rem; omega
        · have hg1 : g < wr.heap.size := hs.lt 0 rfl
          have HSr := Lib.hid hs
          have HBj := Lib.hid hbj
          have HAj := Lib.hid hAj
          have HZ := Lib.hid hz
          clear hs hbj hAj hz
          go_wp2_with (refine wpList_copy_fn rfl (.tmp 74) (.tmp 75) 39 39 rfl Tryd.underlying39 (by kernel_rfl) (HSr.out.row 0 rfl) 8 64 64 (HBj.out.hs HSr.out (Nat.le_refl _) (fun h0 ad e => by simp; exact fun h => HAj.out h0 ad e h.symm)) (fun _ _ => rfl) rem (by omega) (show _ ≤ 74 by omega) rfl rfl ?_; intro w5 hr5 hg5; have hs5 := (HSr.out.write 0 rfl hg5 hr5).congr 0 rfl (digG_lay _ (fun i => M (64 * Qn + i)) _ 0 rem _ _ _ rfl (by omega)); have c72 := hs5.cell 0 72 rfl (by show 72 < 74; omega); rw [digG_72] at c72; have f72 := hs5.frozen 0 72 rfl; have HS5 := Lib.hid hs5; clear hs5 hr5 hg5)
          have hs := (HS5.out.set 0 72 rfl _).congr 0 rfl (digG_n _ _ _ rem _ _ rfl)
          go_end0
          exact ⟨rfl, ⟨Qn, rem, layAt 0 rem (fun i => M (64 * Qn + i)) z, by omega, by omega, fun j hj => by unfold layAt; rw [if_pos (by omega)]; rfl, fun j => layAt_lt (fun i => HM.out _) HZ.out j, by rw [show 64 * q + r + n = 64 * q + r + n from rfl] at hs; exact hs.row 0 rfl⟩, hs.grown g (fun r hr => by simp at hr; subst hr; exact .inr rfl)⟩

set_option maxHeartbeats 4000000 in
/-- There is no rest. -/
theorem write_zero (g q r n c : Nat) (A : Option Addr) (m x y : Nat → Nat) (w : World)
    (hrow : w.rowIs g 135 74 (digG (Hs m q) y r (64 * q + r))) (hy : ∀ j, j < r → y j = m (64 * q + j)) (hy2 : ∀ j, y j < 256) (hr : r < 64) (hb : Rd w w.heap.size A n (u8v x)) (hA : Apt A n g) (hx : ∀ i, x i < 256) (hm : ∀ i, m i < 256)
    (hn : n ≤ 140737488355328) (hnc : n ≤ c) (hp : ShaPkg w) (hg : 0 < g ∧ 3 < g) (hr0 : r = 0) :
    Calls Tryd.prog 63 #[.pointer (some ⟨g, 0, none⟩), .slice A n c] w fun e w' => e = .returned (.tuple #[]) ∧ Dig w' g (catN (64 * q + r) m x) (64 * q + r + n) ∧ w.grownBy w' (some g) := by
  subst hr0
  have hglt := hrow.lt
  have hs0 := HS.own hrow
  have c72 := hs0.cell 0 72 rfl (by show 72 < 74; omega)
  have c73 := hs0.cell 0 73 rfl (by show 73 < 74; omega)
  have f72 := hs0.frozen 0 72 rfl
  have f73 := hs0.frozen 0 73 rfl
  rw [digG_72] at c72
  rw [digG_73] at c73
  obtain ⟨M, hMd⟩ : ∃ M, M = catN (64 * q + 0) m x := ⟨_, rfl⟩
  have hM : ∀ i, M i < 256 := fun i => by rw [hMd]; exact catN_lt hm hx i
  have HQ := Lib.hid (show Hs m q = Hs M q by rw [hMd]; exact Hs_cat q 0 m x)
  have hxM : ∀ i, i < n → u8v x i = u8v (fun i => M (64 * q + i)) i := fun i _ => by
    simp only [u8v]
    rw [hMd]; unfold catN; rw [if_neg (by omega), show 64 * q + i - (64 * q + 0) = i by omega]
  have HB := Lib.hid (hb.congr hxM)
  have HA := Lib.hid hA
  have HY2 := Lib.hid hy2
  have HM := Lib.hid hM
  have HP := Lib.hid hp
  have HS0 := Lib.hid hs0
  rw [← hMd]
  clear hrow hs0 hb hA hy hy2 hx hm hp hxM hMd hM
  go_enter Tryd.func63, Tryd.ntmps63
  go_wp2_with fail
  go_loopw [1] (fun s wr => ∃ (Qn rem : Nat) (Aj : Option Addr) (cj : Nat) (z : Nat → Nat), s = .slice Aj rem cj ∧ 64 * Qn + rem = 64 * q + 0 + n ∧ rem ≤ cj ∧ rem ≤ 140737488355328 ∧ Rd w w.heap.size Aj rem (u8v fun i => M (64 * Qn + i)) ∧ Apt Aj rem g ∧ (∀ j, z j < 256) ∧ HS w wr [⟨g, 135, 74, digG (Hs M Qn) z 0 (64 * q + 0 + n)⟩]) (fun s _ => match s with | .slice _ k _ => k | _ => 0)
  case atStart => exact ⟨q, n, A, c, y, rfl, by omega, by omega, by omega, HB.out, HA.out, HY2.out, by rw [← HQ.out]; exact (HS0.out.set 0 73 rfl _).congr 0 rfl (digG_all _ _ _ _ _ _ (by congr 1; first | omega | (rw [IntKind.wrap_u64]; omega)))⟩
  case round =>
    clear HS0
    obtain ⟨Qn, rem, Aj, cj, z, rfl, hrem, hrc, hrn, hbj, hAj, hz, hs⟩ := hrel
    by_cases h64 : 64 ≤ rem
    · have hg1 : g < wr.heap.size := hs.lt 0 rfl
      have HSr := Lib.hid hs
      have HBj := Lib.hid hbj
      have HAj := Lib.hid hAj
      have HZ := Lib.hid hz
      clear hs hbj hAj hz
      go_wp2_with fail
      have hs := HSr.out
      refine wp_region_factsS (l := [_, _, _, _, _]) (tl := []) (B := wr.heap.size) (w0 := wr) [SF.is (.pointer (some ⟨g, 0, none⟩)), SF.is (.pointer (some ⟨g, 0, none⟩)), SF.is (.pointer (some ⟨g, 0, none⟩)), SF.is (.slice (Aj) (rem) (cj)), SF.is (.slice (Aj) (64) (cj))] (by kernel_rfl) (by kernel_rfl) rfl (Nat.le_refl _) (Below.refl _ _) ⟨?_, ?_, ?_, ?_, ?_, trivial⟩ ?_
      · exact (opOb_move _ rfl (.inl rfl) rfl)
      · exact opOb_nil _ rfl rfl (OpK.tmp rfl)
      · exact opOb_fld rfl rfl (OpK.tmp rfl) (fun w => by simp [go_sem])
      · exact (opOb_move _ rfl (.inl rfl) rfl)
      · exact opOb_slc rfl rfl (OpK.tmp rfl) OpKo.no OpKo.const (fun w => cut_to Tryd.underlying39 (by kernel_rfl) Aj rem cj 64 (by omega) w)
      · intro w' hb
        simp only [fin, SF.is, forall_eq]
        simp only [Act.put, List.setIfInBounds_toArray, List.set_cons_succ, List.set_cons_zero]
        have hs3 := hs.below hb
        refine wp_fn ent_mix #[.pointer (some ⟨g, 0, none⟩), .slice Aj 64 cj] rfl rfl ?_
        refine (mix_any g 0 64 cj w.heap.size Aj 135 74 _ (Hs M Qn) (fun i => M (64 * Qn + i)) w' (hs3.row 0 rfl) (by decide) (fun i hi => digG_lo _ _ _ _ i hi) (fun i => HM.out _) ((HBj.out.short h64).hs hs3 (Nat.le_refl _) (fun _ ad e => by simp; exact fun h => HAj.out (by omega) ad e h.symm)) hs3.size (Nat.le_refl _) (by omega)
          (HP.out.keep fun b hb hb2 => hs3.block b hb (fun r hr => by simp at hr; subst hr; rcases hb2 with rfl | rfl <;> (show g ≠ _; omega))).round).mono ?_
        rintro e w4 ⟨rfl, hr4, hg4⟩
        have hs4 := (hs3.write 0 rfl hg4 hr4).congr 0 rfl (digG_h _ (Hs M (Qn + 1)) _ _ _)
        have HS4 := Lib.hid hs4
        clear hs hs3 hb hr4 hg4 hs4 hg1
        refine ⟨_, rfl, ?_⟩
        simp only [seqWp]
        obtain ⟨A2, hcut0, hcut2⟩ := cut_from (P := Tryd.prog) Tryd.underlying39 (by kernel_rfl) Aj rem cj 64 h64 hrc
        have hcut : ∀ w : World, (Instr.sliceAt 39 (.slice Aj rem cj) (some (.int .i64 64)) none none).run Tryd.prog w = .ok (.slice A2 (rem - 64) (cj - 64)) w := hcut0
        clear hcut0
        have HC := Lib.hid hcut2
        clear hcut2
        go_wp2_with fail
        go_roundw
        case rel => exact ⟨Qn + 1, rem - 64, A2, cj - 64, z, rfl, by omega, by omega, by omega, (HC.out.rd HBj.out).congr (fun i _ => congrArg (fun k => Value.int .u8 ((M k : Nat) : Int)) (show 64 * Qn + (64 + i) = 64 * (Qn + 1) + i by omega)), HC.out.apart HAj.out, HZ.out, HS4.out⟩
        case measure => show rem - 64 < rem; omega
    · have hg1 : g < wr.heap.size := hs.lt 0 rfl
      have HSr := Lib.hid hs
      have HBj := Lib.hid hbj
      have HAj := Lib.hid hAj
      have HZ := Lib.hid hz
      clear hs hbj hAj hz
      go_wp2_with (refine wpList_copy_fn rfl (.tmp 74) (.tmp 75) 39 39 rfl Tryd.underlying39 (by kernel_rfl) (HSr.out.row 0 rfl) 8 64 64 (HBj.out.hs HSr.out (Nat.le_refl _) (fun h0 ad e => by simp; exact fun h => HAj.out h0 ad e h.symm)) (fun _ _ => rfl) rem (by omega) (show _ ≤ 74 by omega) rfl rfl ?_; intro w5 hr5 hg5; have hs5 := (HSr.out.write 0 rfl hg5 hr5).congr 0 rfl (digG_lay _ (fun i => M (64 * Qn + i)) _ 0 rem _ _ _ rfl (by omega)); have c72 := hs5.cell 0 72 rfl (by show 72 < 74; omega); rw [digG_72] at c72; have f72 := hs5.frozen 0 72 rfl; have HS5 := Lib.hid hs5; clear hs5 hr5 hg5)
      have hs := (HS5.out.set 0 72 rfl _).congr 0 rfl (digG_n _ _ _ rem _ _ rfl)
      go_end0
      exact ⟨rfl, ⟨Qn, rem, layAt 0 rem (fun i => M (64 * Qn + i)) z, by omega, by omega, fun j hj => by unfold layAt; rw [if_pos (by omega)]; rfl, fun j => layAt_lt (fun i => HM.out _) HZ.out j, by rw [show 64 * q + 0 + n = 64 * q + 0 + n from rfl] at hs; exact hs.row 0 rfl⟩, hs.grown g (fun r hr => by simp at hr; subst hr; exact .inr rfl)⟩

theorem write_any (g len n c : Nat) (A : Option Addr) (m x : Nat → Nat) (w : World) (hd : Dig w g m len) (hb : Rd w w.heap.size A n (u8v x)) (hA : Apt A n g) (hx : ∀ i, x i < 256) (hm : ∀ i, m i < 256)
    (hn : n ≤ 140737488355328) (hnc : n ≤ c) (hp : ShaPkg w) (hg : 0 < g ∧ 3 < g) :
    Calls Tryd.prog 63 #[.pointer (some ⟨g, 0, none⟩), .slice A n c] w fun e w' => e = .returned (.tuple #[]) ∧ Dig w' g (catN len m x) (len + n) ∧ w.grownBy w' (some g) := by
  obtain ⟨q, r, y, rfl, hr, hy, hy2, hrow⟩ := hd
  by_cases h0 : r = 0
  · exact write_zero g q r n c A m x y w hrow hy hy2 hr hb hA hx hm hn hnc hp hg h0
  · by_cases h1 : r + n < 64
    · exact write_small g q r n c A m x y w hrow hy hy2 hr hb hA hx hm hn hnc hp hg (by omega) h1
    · exact write_fill g q r n c A m x y w hrow hy hy2 hr hb hA hx hm hn hnc hp hg (by omega) (by omega)
end Go.Proofs.YtjhgndnpihnidaaDoor
