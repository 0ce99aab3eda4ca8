/- The walks of the digest. -/
import Derived.Test.YtecgogeebponlaaDoorShaStream
import Derived.Test.YtecgogeebponlaaDoorShaMix
import Derived.Test.YtecgogeebponlaaDoorSeq
namespace Go.Proofs.YtecgogeebponlaaDoor
set_option maxRecDepth 40000
open Go.RowKit

/-- The package's words and constants lie where they were laid. -/
structure ShaPkg (w : World) : Prop where
  start : ∀ i, i < 8 → w.cell? ⟨0, i, none⟩ = some (wv (h0 i))
  round : ∀ i, i < 64 → w.cell? ⟨1, i, none⟩ = some (wv (kw i))
theorem ShaPkg.lt {w : World} (h : ShaPkg w) : 0 < w.heap.size ∧ 1 < w.heap.size := by
  have h1 := h.start 0 (by omega)
  have h2 := h.round 0 (by omega)
  exact ⟨cell_lt0 h1, cell_lt0 h2⟩
theorem ShaPkg.keep {w w' : World} (h : ShaPkg w) (hk : ∀ b, b < w.heap.size → (b = 0 ∨ b = 1) → w'.heap[b]? = w.heap[b]?) : ShaPkg w' := by
  have hl := h.lt
  exact ⟨fun i hi => (World.cell?_of_block (a := ⟨0, i, none⟩) (hk _ hl.1 (.inl rfl))).trans (h.start i hi), fun i hi => (World.cell?_of_block (a := ⟨1, i, none⟩) (hk _ hl.2 (.inr rfl))).trans (h.round i hi)⟩
theorem ShaPkg.below {w w' : World} (h : ShaPkg w) (hb : Below w.heap.size w w') : ShaPkg w' := h.keep fun b hb' _ => hb.block b hb'

abbrev agg8' : Value := .agg #[wv (h0 0), wv (h0 1), wv (h0 2), wv (h0 3), wv (h0 4), wv (h0 5), wv (h0 6), wv (h0 7)]
theorem built_dig (m : Nat → Nat) : Tryd.prog.built 95 [(0, agg8')] = some (arr 74 (digF m 0 (fun _ => 0))) := by kernel_rfl
theorem dig_start (m : Nat → Nat) (w : World) : (w.alloc (.cells (arr 74 (digF m 0 (fun _ => 0))) 95)).rowIs w.heap.size 95 74 (digF m 0 (fun _ => 0)) := by
  have := World.rowIs_alloc w (arr 74 (digF m 0 (fun _ => 0))) 95 (digF m 0 (fun _ => 0)) (fun i hi => arr_at _ _ i (by rwa [size_arr] at hi))
  rwa [size_arr] at this

set_option maxHeartbeats 400000 in
theorem new_any (w : World) (hp : ShaPkg w) (m : Nat → Nat) :
    Calls Tryd.prog 22 #[] w fun e w' => ∃ g, e = .returned (.pointer (some ⟨g, 0, none⟩)) ∧ w.heap.size ≤ g ∧ w'.rowIs g 95 74 (digF m 0 (fun _ => 0)) ∧ Below w.heap.size w w' := by
  have HP := Lib.hid hp
  clear hp
  go_enter Tryd.func22, Tryd.ntmps22
  go_wp2_with (first
    | (refine wpList_load_part rfl 91 (.global 0) rfl 0 0 8 (fun i => wv (h0 i)) rfl _ (fun i hi => by rw [Nat.zero_add]; exact HP.out.start i hi) Tryd.underlying91 rfl (by kernel_rfl) #[wv (h0 0), wv (h0 1), wv (h0 2), wv (h0 3), wv (h0 4), wv (h0 5), wv (h0 6), wv (h0 7)] rfl ?_)
    | (refine wpList_build_as rfl 95 #[(0, .tmp 1)] rfl [(0, agg8')] rfl _ (built_dig m) ?_))
  go_ret
  exact ⟨w.heap.size, rfl, Nat.le_refl _, dig_start m w, (Below.refl _ _).alloc (Nat.le_refl _) _⟩

/-- Bytes as a value. -/
abbrev u8v (f : Nat → Nat) : Nat → Value := fun i => .int .u8 ((f i : Nat) : Int)
/-- 32 bytes as a value. -/
abbrev rootV (f : Nat → Nat) : Value := .agg (arr 32 (u8v f))
theorem row_zero32 (w : World) : (w.alloc (.cells (Array.replicate 32 (.int .u8 0)) 24)).rowIs w.heap.size 24 32 (u8v fun _ => 0) := by
  have := World.rowIs_alloc w (Array.replicate 32 (.int .u8 0)) 24 (u8v fun _ => 0) (fun i hi => by simp at hi; simp [hi])
  simpa using this

theorem root_0 (H : Nat → W32) (k : Nat) : Value.int .u8 (((H k).toNat : Int) / 16777216) = .int .u8 ((rootOf H (4 * k) : Nat) : Int) := by
  have h := (H k).isLt
  have e : rootOf H (4 * k) = (H k).toNat / 16777216 := by
    unfold rootOf
    rw [show 4 * k / 4 = k by omega, show 24 - 8 * (4 * k % 4) = 24 by omega, BitVec.toNat_ushiftRight, Nat.shiftRight_eq_div_pow]
    omega
  rw [e]; congr 1
theorem root_1 (H : Nat → W32) (k : Nat) : Value.int .u8 (((H k).toNat : Int) / 65536 % 256) = .int .u8 ((rootOf H (4 * k + 1) : Nat) : Int) := by
  have e : rootOf H (4 * k + 1) = (H k).toNat / 65536 % 256 := by
    unfold rootOf
    rw [show (4 * k + 1) / 4 = k by omega, show 24 - 8 * ((4 * k + 1) % 4) = 16 by omega, BitVec.toNat_ushiftRight, Nat.shiftRight_eq_div_pow]
  rw [e]; congr 1
theorem root_2 (H : Nat → W32) (k : Nat) : Value.int .u8 (((H k).toNat : Int) / 256 % 256) = .int .u8 ((rootOf H (4 * k + 2) : Nat) : Int) := by
  have e : rootOf H (4 * k + 2) = (H k).toNat / 256 % 256 := by
    unfold rootOf
    rw [show (4 * k + 2) / 4 = k by omega, show 24 - 8 * ((4 * k + 2) % 4) = 8 by omega, BitVec.toNat_ushiftRight, Nat.shiftRight_eq_div_pow]
  rw [e]; congr 1
theorem root_3 (H : Nat → W32) (k : Nat) : Value.int .u8 (((H k).toNat : Int) % 256) = .int .u8 ((rootOf H (4 * k + 3) : Nat) : Int) := by
  have e : rootOf H (4 * k + 3) = (H k).toNat % 256 := by
    unfold rootOf
    rw [show (4 * k + 3) / 4 = k by omega, show 24 - 8 * ((4 * k + 3) % 4) = 0 by omega, BitVec.toNat_ushiftRight, Nat.shiftRight_eq_div_pow]
    simp
  rw [e]; congr 1

set_option maxHeartbeats 1000000 in
theorem root_any (g o : Nat) (H : Nat → W32) (w : World) (hH : ∀ i, i < 8 → w.cell? ⟨g, o + i, none⟩ = some (wv (H i))) :
    Calls Tryd.prog 41 #[.pointer (some ⟨g, o, none⟩)] w fun e w' => e = .returned (rootV (rootOf H)) ∧ Below w.heap.size w w' := by
  have HH := Lib.hid hH
  have hg : g < w.heap.size := cell_lt0 (hH 0 (by omega))
  have HS0 := Lib.hid (((HS.nil w).alloc (Array.replicate 32 (.int .u8 0)) 24 32 (u8v fun _ => 0) (by simp) (fun i hi => rep_at _ _ i hi)).alloc (Array.replicate 32 (.int .u8 0)) 24 32 (u8v fun _ => 0) (by simp) (fun i hi => rep_at _ _ i hi))
  rw [alloc_sz] at HS0
  clear hH
  go_enter Tryd.func41, Tryd.ntmps41
  go_wp2
  go_loopw [7] (fun i wr => ∃ k : Nat, k ≤ 8 ∧ i = .int .i64 k ∧ HS w wr [⟨w.heap.size + 1, 24, 32, u8v fun j => if j < 4 * k then rootOf H j else 0⟩, ⟨w.heap.size, 24, 32, u8v fun _ => 0⟩]) (fun i _ => 8 - (intOf i).toNat)
  case atStart => exact ⟨0, by omega, rfl, HS0.out⟩
  case round =>
    obtain ⟨k, hk, rfl, hs⟩ := hrel
    by_cases hk8 : k < 8
    · have hc : wr.cell? ⟨g, o + k, none⟩ = some (wv (H k)) := (hs.old (Nat.le_refl _) (by simp)).cell (p := ⟨g, o + k, none⟩) hg |>.trans (HH.out k hk8)
      have hd : ∀ i, i < 32 → wr.cell? ⟨w.heap.size + 1, i, none⟩ = some (u8v (fun j => if j < 4 * k then rootOf H j else 0) i) := fun i hi => hs.cell 0 i rfl hi
      have hf : ∀ i, wr.frozen? ⟨w.heap.size + 1, i, none⟩ = false := fun i => hs.frozen 0 i rfl
      have hd0 := hd (4 * k) (by omega)
      have hd1 := hd (4 * k + 1) (by omega)
      have hd2 := hd (4 * k + 2) (by omega)
      have hd3 := hd (4 * k + 3) (by omega)
      have HSx := Lib.hid hs
      clear hs hd
      go_wp2
      go_quiet (fail)
      go_wp2
      go_roundw
      case rel =>
        refine ⟨k + 1, by omega, by go_num, ?_⟩
        rw [root_0, root_1, root_2, root_3]
        refine (((((HSx.out.drewN _).set 0 (4 * k) rfl _).set 0 (4 * k + 1) rfl _).set 0 (4 * k + 2) rfl _).set 0 (4 * k + 3) rfl _).congr 0 rfl (fun j _ => ?_)
        by_cases e3 : j = 4 * k + 3
        · subst e3; simp [u8v, show 4 * k + 3 < 4 * (k + 1) by omega]
        · by_cases e2 : j = 4 * k + 2
          · subst e2; simp [u8v, show 4 * k + 2 < 4 * (k + 1) by omega]
          · by_cases e1 : j = 4 * k + 1
            · subst e1; simp [u8v, show 4 * k + 1 < 4 * (k + 1) by omega]
            · by_cases e0 : j = 4 * k
              · subst e0; simp [u8v, show 4 * k < 4 * (k + 1) by omega]
              · by_cases e : j < 4 * k
                · simp [u8v, e, e0, e1, e2, e3, show j < 4 * (k + 1) by omega]
                · simp [u8v, e, e0, e1, e2, e3, show ¬ j < 4 * (k + 1) by omega]
      case measure => simp [intOf]; omega
    · obtain rfl : k = 8 := by omega
      have HSx := Lib.hid hs
      obtain ⟨cz, hcz, hzs, hzc⟩ := hs.heap 1 rfl
      have HR := Lib.hid (hs.row 1 rfl)
      have HX := Lib.hid (heap_arr (hs.row 0 rfl))
      clear hs hcz hzs hzc
      go_wp2_with (first
        | (refine wpList_load_row rfl 24 (.tmp 3) rfl (w.heap.size + 1) rfl 24 _ _ _ HX.out Tryd.underlying24 rfl (by kernel_rfl) ?_)
        | (refine wpList_store_arr rfl 24 (.tmp 2) (.tmp 40) rfl HR.out _ rfl rfl (size_arr _ _) (by kernel_rfl) (fun i hi => ⟨_, arr_at _ _ i hi, rfl⟩) ?_))
      have hend := HSx.out.setRow 1 rfl (arr 32 (u8v fun j => if j < 32 then rootOf H j else 0)) (size_arr _ _) _ (fun i hi => arr_at _ _ i hi)
      refine ret_rowIs rfl (hend.row 1 rfl) _ rfl Tryd.underlying24 rfl (by kernel_rfl) rfl ⟨?_, hend.out (by simp)⟩
      rw [arr_congr (g := u8v (rootOf H)) (fun i hi => by simp [u8v, hi])]
end Go.Proofs.YtecgogeebponlaaDoor
