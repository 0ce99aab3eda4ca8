/- A part of what the proofs stand on: ShaBlock, ShaRef, Bytes, ShufPlain. -/
import Derived.Test.YtjhgndnpihnidaaDoorGPic11
import Derived.Test.YtjhgndnpihnidaaDoorGPic4
/- The walk of the reference's block. (Printed by a program of mine.) -/
namespace Go.Proofs.YtjhgndnpihnidaaDoor
set_option maxRecDepth 40000
open Go.RowKit

/-- Eight words as a value. -/
abbrev agg8 (H : Nat → W32) : Value := .agg #[wv (H 0), wv (H 1), wv (H 2), wv (H 3), wv (H 4), wv (H 5), wv (H 6), wv (H 7)]

theorem below_setCell {w : World} {b : Nat} {p : Addr} {u : Value} (h : b < p.block) : Below (b + 1) w (w.setCell p u) := (Below.refl _ _).setCell h _
theorem row_replicate (w : World) (t : TypeId) (n : Nat) (v : Value) : (w.alloc (.cells (Array.replicate n v) t)).rowIs w.heap.size t (Array.replicate n v).size (fun _ => v) :=
  World.rowIs_alloc w _ _ (fun _ => v) (fun i hi => by simp at hi; simp [hi])

set_option maxRecDepth 100000 in
set_option maxHeartbeats 8000000 in
theorem block_any (n c B : Nat) (A : Option Addr) (H : Nat → W32) (m : Nat → Nat) (w : World)
    (hm : ∀ i, m i < 256) (hb : Rd w B A n (fun i => .int .u8 ((m i : Nat) : Int))) (hB : B ≤ w.heap.size) (hn : 64 ≤ n) (hn2 : n ≤ 140737488355328)
    (hK0 : ∀ i, i < 64 → w.cell? ⟨1, i, none⟩ = some (wv (kw i))) :
    Calls Tryd.prog 74 #[agg8 H, .slice A n c] w fun e w' => e = .returned (agg8 (comp H m)) ∧ Below w.heap.size w w' := by
  have hG0 : 1 < w.heap.size := by have h := hK0 0 (by omega); have := cell_lt0 h; exact this
  have HK := Lib.hid hK0
  clear hK0
  go_enter Tryd.func74, Tryd.ntmps74
  go_wp2_with fail
  go_loopw [6] (fun i wr => ∃ k : Nat, k ≤ 16 ∧ i = .int .i64 k ∧ wr.rowIs (w.heap.size + 2) 146 64 (fun j => if j < k then wv (word m j) else wv 0) ∧ wr.rowIs w.heap.size 127 8 (fun j => wv (H j)) ∧ (∃ z, wr.rowIs (w.heap.size + 1) 127 8 z) ∧ Below w.heap.size w wr) (fun i _ => 16 - (intOf i).toNat)
  case atStart =>
    have r1 := World.rowIs_alloc w #[wv (H 0), wv (H 1), wv (H 2), wv (H 3), wv (H 4), wv (H 5), wv (H 6), wv (H 7)] 127 (fun j => wv (H j)) (fun i hi => by
      have hi : i < 8 := hi
      match i, hi with
      | 0, _ | 1, _ | 2, _ | 3, _ | 4, _ | 5, _ | 6, _ | 7, _ => rfl
      | n + 8, h => omega)
    have r2 := row_replicate (w.alloc (.cells #[wv (H 0), wv (H 1), wv (H 2), wv (H 3), wv (H 4), wv (H 5), wv (H 6), wv (H 7)] 127)) 127 8 (wv 0)
    have r3 := row_replicate ((w.alloc (.cells #[wv (H 0), wv (H 1), wv (H 2), wv (H 3), wv (H 4), wv (H 5), wv (H 6), wv (H 7)] 127)).alloc (.cells (Array.replicate 8 (wv 0)) 127)) 146 64 (wv 0)
    have e1 : (w.alloc (.cells #[wv (H 0), wv (H 1), wv (H 2), wv (H 3), wv (H 4), wv (H 5), wv (H 6), wv (H 7)] 127)).heap.size = w.heap.size + 1 := alloc_sz _ _
    have e2 : ((w.alloc (.cells #[wv (H 0), wv (H 1), wv (H 2), wv (H 3), wv (H 4), wv (H 5), wv (H 6), wv (H 7)] 127)).alloc (.cells (Array.replicate 8 (wv 0)) 127)).heap.size = w.heap.size + 2 := by rw [alloc_sz, e1]
    rw [e1] at r2
    rw [e2] at r3
    have B2 : Below (w.heap.size + 1) (w.alloc (.cells #[wv (H 0), wv (H 1), wv (H 2), wv (H 3), wv (H 4), wv (H 5), wv (H 6), wv (H 7)] 127)) _ := (Below.refl _ _).alloc (Nat.le_of_eq e1.symm) (.cells (Array.replicate 8 (wv 0)) 127)
    have B3 : Below (w.heap.size + 2) ((w.alloc (.cells #[wv (H 0), wv (H 1), wv (H 2), wv (H 3), wv (H 4), wv (H 5), wv (H 6), wv (H 7)] 127)).alloc (.cells (Array.replicate 8 (wv 0)) 127)) _ := (Below.refl _ _).alloc (Nat.le_of_eq e2.symm) (.cells (Array.replicate 64 (wv 0)) 146)
    have B1 : Below w.heap.size w _ := (Below.refl _ _).alloc (Nat.le_refl _) (.cells #[wv (H 0), wv (H 1), wv (H 2), wv (H 3), wv (H 4), wv (H 5), wv (H 6), wv (H 7)] 127)
    exact ⟨0, Nat.zero_le _, rfl, r3.congr (fun j _ => by rw [if_neg (by omega)]), row_below (row_below r1 B2 (by omega)) B3 (by omega), ⟨_, row_below r2 B3 (by omega)⟩, (B1.trans (B2.mono (by omega))).trans (B3.mono (by omega))⟩
  case round =>
    obtain ⟨k, hk, rfl, hW, hH, ⟨z, hz⟩, hbel⟩ := hrel
    by_cases hk16 : k < 16
    · have hr := hb.below (hbel.mono hB)
      obtain ⟨ad, hA, hbl, c0⟩ := hr.at_ (k := 4 * k) (by omega)
      subst hA
      have C0 := Lib.hid c0
      have C1 := Lib.hid (hr.cell_ (k := 4 * k + 1) (by omega))
      have C2 := Lib.hid (hr.cell_ (k := 4 * k + 2) (by omega))
      have C3 := Lib.hid (hr.cell_ (k := 4 * k + 3) (by omega))
      have hadB : ad.block < wr.heap.size := Nat.lt_of_lt_of_le hbl (Nat.le_trans hB hbel.size)
      have b0 := hm (4 * k)
      have b1 := hm (4 * k + 1)
      have b2 := hm (4 * k + 2)
      have b3 := hm (4 * k + 3)
      have HW := Lib.hid hW
      have HH := Lib.hid hH
      have Hz := Lib.hid hz
      have Hbel := Lib.hid hbel
      clear hW hbel hb hm hr c0 hH hz
      go_wp2_with fail
      refine wp_region_factsT (l := [_, _, _, _, _, _, _, _, _, _, _, _, _, _, _, _, _, _, _, _, _, _, _, _, _, _, _, _, _, _, _, _, _, _, _]) (B := wr.heap.size) (w0 := wr) [SF.is (.int .i64 ((k : Nat) : Int)), SF.is (.slice (some ad) n c), SF.is (.int .i64 ((k : Nat) : Int)), SF.is (.int .i64 ((4 * k : Nat) : Int)), SF.is (.pointer (some (ad.add (4 * k)))), SF.is (.int .u8 ((m (4 * k) : Nat) : Int)), SF.is (wv (BitVec.ofNat 32 (m (4 * k)))), SF.is (wv ((BitVec.ofNat 32 (m (4 * k))) <<< (24 : Nat))), SF.is (.slice (some ad) n c), SF.is (.int .i64 ((k : Nat) : Int)), SF.is (.int .i64 ((4 * k : Nat) : Int)), SF.is (.int .i64 (((4 * k) + (1) : Nat) : Int)), SF.is (.pointer (some (ad.add (4 * k + 1)))), SF.is (.int .u8 ((m (4 * k + 1) : Nat) : Int)), SF.is (wv (BitVec.ofNat 32 (m (4 * k + 1)))), SF.is (wv ((BitVec.ofNat 32 (m (4 * k + 1))) <<< (16 : Nat))), SF.is (wv (((BitVec.ofNat 32 (m (4 * k))) <<< (24 : Nat)) ||| ((BitVec.ofNat 32 (m (4 * k + 1))) <<< (16 : Nat)))), SF.is (.slice (some ad) n c), SF.is (.int .i64 ((k : Nat) : Int)), SF.is (.int .i64 ((4 * k : Nat) : Int)), SF.is (.int .i64 (((4 * k) + (2) : Nat) : Int)), SF.is (.pointer (some (ad.add (4 * k + 2)))), SF.is (.int .u8 ((m (4 * k + 2) : Nat) : Int)), SF.is (wv (BitVec.ofNat 32 (m (4 * k + 2)))), SF.is (wv ((BitVec.ofNat 32 (m (4 * k + 2))) <<< (8 : Nat))), SF.is (wv ((((BitVec.ofNat 32 (m (4 * k))) <<< (24 : Nat)) ||| ((BitVec.ofNat 32 (m (4 * k + 1))) <<< (16 : Nat))) ||| ((BitVec.ofNat 32 (m (4 * k + 2))) <<< (8 : Nat)))), SF.is (.slice (some ad) n c), SF.is (.int .i64 ((k : Nat) : Int)), SF.is (.int .i64 ((4 * k : Nat) : Int)), SF.is (.int .i64 (((4 * k) + (3) : Nat) : Int)), SF.is (.pointer (some (ad.add (4 * k + 3)))), SF.is (.int .u8 ((m (4 * k + 3) : Nat) : Int)), SF.is (wv (BitVec.ofNat 32 (m (4 * k + 3)))), SF.is (wv (((((BitVec.ofNat 32 (m (4 * k))) <<< (24 : Nat)) ||| ((BitVec.ofNat 32 (m (4 * k + 1))) <<< (16 : Nat))) ||| ((BitVec.ofNat 32 (m (4 * k + 2))) <<< (8 : Nat))) ||| (BitVec.ofNat 32 (m (4 * k + 3))))), SF.is (.pointer (some ⟨w.heap.size + 2, 0 + (k), none⟩))] (by kernel_rfl) (by kernel_rfl) rfl (Nat.le_refl _) (Below.refl _ _) ⟨?_, ?_, ?_, ?_, ?_, ?_, ?_, ?_, ?_, ?_, ?_, ?_, ?_, ?_, ?_, ?_, ?_, ?_, ?_, ?_, ?_, ?_, ?_, ?_, ?_, ?_, ?_, ?_, ?_, ?_, ?_, ?_, ?_, ?_, ?_, trivial⟩ ?_
      · exact (opOb_move _ rfl (.inl rfl) rfl)
      · exact (opOb_move _ rfl (.inl rfl) rfl)
      · exact (opOb_move _ rfl (.inl rfl) rfl)
      · exact opOb_nmul _ _ (by omega) rfl rfl (OpK.const) (OpK.tmp rfl)
      · exact opOb_idx rfl rfl (OpK.tmp rfl) (OpK.tmp rfl) (fun w => run_idx_slice w ad n c (4 * k) (by omega))
      · exact opOb_ld rfl rfl (OpK.tmp rfl) (fun w' hb => run_ld8 w' _ _ ((hb.cell (by rw [block_of_add]; exact hadB)).trans C0.out))
      · exact opOb_wide _ b0 Tryd.underlying5 Tryd.underlying125 rfl rfl (OpK.tmp rfl)
      · exact opOb_shl _ 24 (by omega) rfl rfl (OpK.tmp rfl)
      · exact (opOb_move _ rfl (.inl rfl) rfl)
      · exact (opOb_move _ rfl (.inl rfl) rfl)
      · exact opOb_nmul _ _ (by omega) rfl rfl (OpK.const) (OpK.tmp rfl)
      · exact opOb_nadd _ _ (by omega) rfl rfl (OpK.tmp rfl) (OpK.const)
      · exact opOb_idx rfl rfl (OpK.tmp rfl) (OpK.tmp rfl) (fun w => run_idx_slice w ad n c (4 * k + 1) (by omega))
      · exact opOb_ld rfl rfl (OpK.tmp rfl) (fun w' hb => run_ld8 w' _ _ ((hb.cell (by rw [block_of_add]; exact hadB)).trans C1.out))
      · exact opOb_wide _ b1 Tryd.underlying5 Tryd.underlying125 rfl rfl (OpK.tmp rfl)
      · exact opOb_shl _ 16 (by omega) rfl rfl (OpK.tmp rfl)
      · exact opOb_or _ _ rfl rfl (OpK.tmp rfl) (OpK.tmp rfl)
      · exact (opOb_move _ rfl (.inl rfl) rfl)
      · exact (opOb_move _ rfl (.inl rfl) rfl)
      · exact opOb_nmul _ _ (by omega) rfl rfl (OpK.const) (OpK.tmp rfl)
      · exact opOb_nadd _ _ (by omega) rfl rfl (OpK.tmp rfl) (OpK.const)
      · exact opOb_idx rfl rfl (OpK.tmp rfl) (OpK.tmp rfl) (fun w => run_idx_slice w ad n c (4 * k + 2) (by omega))
      · exact opOb_ld rfl rfl (OpK.tmp rfl) (fun w' hb => run_ld8 w' _ _ ((hb.cell (by rw [block_of_add]; exact hadB)).trans C2.out))
      · exact opOb_wide _ b2 Tryd.underlying5 Tryd.underlying125 rfl rfl (OpK.tmp rfl)
      · exact opOb_shl _ 8 (by omega) rfl rfl (OpK.tmp rfl)
      · exact opOb_or _ _ rfl rfl (OpK.tmp rfl) (OpK.tmp rfl)
      · exact (opOb_move _ rfl (.inl rfl) rfl)
      · exact (opOb_move _ rfl (.inl rfl) rfl)
      · exact opOb_nmul _ _ (by omega) rfl rfl (OpK.const) (OpK.tmp rfl)
      · exact opOb_nadd _ _ (by omega) rfl rfl (OpK.tmp rfl) (OpK.const)
      · exact opOb_idx rfl rfl (OpK.tmp rfl) (OpK.tmp rfl) (fun w => run_idx_slice w ad n c (4 * k + 3) (by omega))
      · exact opOb_ld rfl rfl (OpK.tmp rfl) (fun w' hb => run_ld8 w' _ _ ((hb.cell (by rw [block_of_add]; exact hadB)).trans C3.out))
      · exact opOb_wide _ b3 Tryd.underlying5 Tryd.underlying125 rfl rfl (OpK.tmp rfl)
      · exact opOb_or _ _ rfl rfl (OpK.tmp rfl) (OpK.tmp rfl)
      · exact opOb_idx rfl rfl (OpK.tmp rfl) (OpK.tmp rfl) (fun w => run_idx64 w _ _ (k) (by omega))
      · intro w' hb
        simp only [fin, SF.is, forall_eq]
        simp only [Act.put, List.setIfInBounds_toArray, List.set_cons_succ, List.set_cons_zero]
        have hW' := row_below HW.out hb HW.out.lt
        refine wp_store (v := wv (word m k)) rfl rfl rfl rfl (run_st32 w' _ _ _ (by rw [Nat.zero_add]; exact hW'.cell (i := k) (by omega)) (hW'.frozen _)) ?_
        go_wp2_with fail
        go_roundw
        case rel =>
          have hbel := Hbel.out.trans (hb.mono Hbel.out.size)
          refine ⟨k + 1, by omega, by go_num, (hW'.set k _).congr (fun j _ => ?_), row_below (row_below HH.out hb HH.out.lt) (below_setCell (show w.heap.size < w.heap.size + 2 by omega)) (Nat.lt_succ_self _), ⟨z, row_below (row_below Hz.out hb Hz.out.lt) (below_setCell (show w.heap.size + 1 < w.heap.size + 2 by omega)) (Nat.lt_succ_self _)⟩, hbel.setCell (show w.heap.size ≤ w.heap.size + 2 by omega) _⟩
          by_cases e : j = k
          · subst e; rw [if_pos rfl, if_pos (by omega)]
          · rw [if_neg e]
            by_cases e2 : j < k
            · rw [if_pos e2, if_pos (by omega)]
            · rw [if_neg e2, if_neg (by omega)]
        case measure => simp [intOf]; omega
    · obtain rfl : k = 16 := by omega
      have HW := Lib.hid (show wr.rowIs (w.heap.size + 2) 146 64 (fun j => if j < 16 then wv (Wt (word m) j) else wv 0) from hW.congr (fun j _ => by
        by_cases e : j < 16
        · rw [if_pos e, if_pos e, Wt_lo _ _ e]
        · rw [if_neg e, if_neg e]))
      have HH := Lib.hid hH
      have Hz := Lib.hid (show ∃ z, wr.rowIs (w.heap.size + 1) 127 8 z from ⟨z, hz⟩)
      have Hbel := Lib.hid hbel
      clear hW hbel hb hm hH hz
      go_wp2_with fail
      go_loopw [7] (fun i wr => ∃ j : Nat, j ≤ 48 ∧ i = .int .i64 ((j + 16 : Nat) : Int) ∧ wr.rowIs (w.heap.size + 2) 146 64 (fun i => if i < j + 16 then wv (Wt (word m) i) else wv 0) ∧ wr.rowIs w.heap.size 127 8 (fun j => wv (H j)) ∧ (∃ z, wr.rowIs (w.heap.size + 1) 127 8 z) ∧ Below w.heap.size w wr) (fun i _ => 64 - (intOf i).toNat)
      case atStart => exact ⟨0, by omega, rfl, HW.out, HH.out, Hz.out, Hbel.out⟩
      case round =>
        clear HW HH Hz Hbel
        obtain ⟨j, hj, rfl, hW, hH, ⟨z, hz⟩, hbel⟩ := hrel
        by_cases hj48 : j < 48
        · have hlow : ∀ e, e < j + 16 → wr.cell? ⟨w.heap.size + 2, 0 + e, none⟩ = some (wv (Wt (word m) e)) := fun e he => by
            rw [Nat.zero_add, hW.cell (by omega), if_pos he]
          have c1 : wr.cell? ⟨w.heap.size + 2, j + 1, none⟩ = some (wv (Wt (word m) (j + 1))) := by have := hlow (j + 1) (by omega); rwa [Nat.zero_add] at this
          have c14 : wr.cell? ⟨w.heap.size + 2, j + 14, none⟩ = some (wv (Wt (word m) (j + 14))) := by have := hlow (j + 14) (by omega); rwa [Nat.zero_add] at this
          have hWB := hW.lt
          have HW := Lib.hid hW
          have HH := Lib.hid hH
          have Hz := Lib.hid hz
          have Hbel := Lib.hid hbel
          have Hlow := Lib.hid hlow
          clear hW hbel hH hz hlow
          go_wp2_with fail
          have hlow := Hlow.out
          refine wp_region_factsT (l := [_, _, _, _, _, _, _, _, _, _, _, _, _, _, _, _, _, _, _, _, _, _, _, _, _, _, _, _, _]) (B := wr.heap.size) (w0 := wr) [SF.is (.int .i64 ((j + 16 : Nat) : Int)), SF.is (wv (Wt (word m) (j + 14))), SF.is (wv (rotr (Wt (word m) (j + 14)) 17)), SF.is (wv (Wt (word m) (j + 14))), SF.is (wv (rotr (Wt (word m) (j + 14)) 19)), SF.is (wv ((rotr (Wt (word m) (j + 14)) 17) ^^^ (rotr (Wt (word m) (j + 14)) 19))), SF.is (wv (Wt (word m) (j + 14))), SF.is (wv ((Wt (word m) (j + 14)) >>> (10 : Nat))), SF.is (wv (((rotr (Wt (word m) (j + 14)) 17) ^^^ (rotr (Wt (word m) (j + 14)) 19)) ^^^ ((Wt (word m) (j + 14)) >>> (10 : Nat)))), SF.is (.int .i64 ((j + 16 : Nat) : Int)), SF.is (.int .i64 ((j + 9 : Nat) : Int)), SF.is (.pointer (some ⟨w.heap.size + 2, 0 + (j + 9), none⟩)), SF.is (wv (Wt (word m) (j + 9))), SF.is (wv ((((rotr (Wt (word m) (j + 14)) 17) ^^^ (rotr (Wt (word m) (j + 14)) 19)) ^^^ ((Wt (word m) (j + 14)) >>> (10 : Nat))) + (Wt (word m) (j + 9)))), SF.is (wv (Wt (word m) (j + 1))), SF.is (wv (rotr (Wt (word m) (j + 1)) 7)), SF.is (wv (Wt (word m) (j + 1))), SF.is (wv (rotr (Wt (word m) (j + 1)) 18)), SF.is (wv ((rotr (Wt (word m) (j + 1)) 7) ^^^ (rotr (Wt (word m) (j + 1)) 18))), SF.is (wv (Wt (word m) (j + 1))), SF.is (wv ((Wt (word m) (j + 1)) >>> (3 : Nat))), SF.is (wv (((rotr (Wt (word m) (j + 1)) 7) ^^^ (rotr (Wt (word m) (j + 1)) 18)) ^^^ ((Wt (word m) (j + 1)) >>> (3 : Nat)))), SF.is (wv (((((rotr (Wt (word m) (j + 14)) 17) ^^^ (rotr (Wt (word m) (j + 14)) 19)) ^^^ ((Wt (word m) (j + 14)) >>> (10 : Nat))) + (Wt (word m) (j + 9))) + (((rotr (Wt (word m) (j + 1)) 7) ^^^ (rotr (Wt (word m) (j + 1)) 18)) ^^^ ((Wt (word m) (j + 1)) >>> (3 : Nat))))), SF.is (.int .i64 ((j + 16 : Nat) : Int)), SF.is (.int .i64 ((j : Nat) : Int)), SF.is (.pointer (some ⟨w.heap.size + 2, 0 + (j), none⟩)), SF.is (wv (Wt (word m) (j))), SF.is (wv ((((((rotr (Wt (word m) (j + 14)) 17) ^^^ (rotr (Wt (word m) (j + 14)) 19)) ^^^ ((Wt (word m) (j + 14)) >>> (10 : Nat))) + (Wt (word m) (j + 9))) + (((rotr (Wt (word m) (j + 1)) 7) ^^^ (rotr (Wt (word m) (j + 1)) 18)) ^^^ ((Wt (word m) (j + 1)) >>> (3 : Nat)))) + (Wt (word m) (j)))), SF.is (.pointer (some ⟨w.heap.size + 2, 0 + (j + 16), none⟩))] (by kernel_rfl) (by kernel_rfl) rfl (Nat.le_refl _) (Below.refl _ _) ⟨?_, ?_, ?_, ?_, ?_, ?_, ?_, ?_, ?_, ?_, ?_, ?_, ?_, ?_, ?_, ?_, ?_, ?_, ?_, ?_, ?_, ?_, ?_, ?_, ?_, ?_, ?_, ?_, ?_, trivial⟩ ?_
          · exact (opOb_move _ rfl (.inl rfl) rfl)
          · exact (opOb_move _ rfl (.inl rfl) rfl)
          · refine (opOb_call rfl fun a w' hb hf => ?_)
            have h73 : a.tmps[73]?.getD undef = wv (Wt (word m) (j + 14)) := hf 73 List.mem_cons_self
            refine ⟨86, #[wv (Wt (word m) (j + 14)), .int .u64 17], ?_, (rot_17 _ _).mono fun e w'' ⟨he, hw⟩ => ⟨_, he, rfl, hw ▸ Below.refl _ _⟩⟩
            go_light
            simp [go_sem, h73]
          · exact (opOb_move _ rfl (.inl rfl) rfl)
          · refine (opOb_call rfl fun a w' hb hf => ?_)
            have h75 : a.tmps[75]?.getD undef = wv (Wt (word m) (j + 14)) := hf 75 List.mem_cons_self
            refine ⟨86, #[wv (Wt (word m) (j + 14)), .int .u64 19], ?_, (rot_19 _ _).mono fun e w'' ⟨he, hw⟩ => ⟨_, he, rfl, hw ▸ Below.refl _ _⟩⟩
            go_light
            simp [go_sem, h75]
          · exact opOb_xor _ _ rfl rfl (OpK.tmp rfl) (OpK.tmp rfl)
          · exact (opOb_move _ rfl (.inl rfl) rfl)
          · exact opOb_shr _ 10 (by omega) rfl rfl (OpK.tmp rfl)
          · exact opOb_xor _ _ rfl rfl (OpK.tmp rfl) (OpK.tmp rfl)
          · exact (opOb_move _ rfl (.inl rfl) rfl)
          · exact opOb_nsub (j + 16) 7 (j + 9) (by omega) (by omega) rfl rfl (OpK.tmp rfl) OpK.const
          · exact opOb_idx rfl rfl (OpK.tmp rfl) (OpK.tmp rfl) (fun w => run_idx64 w _ _ (j + 9) (by omega))
          · exact opOb_ld rfl rfl (OpK.tmp rfl) (fun w' hb => run_ld32 w' _ _ ((hb.cell (p := ⟨w.heap.size + 2, 0 + (j + 9), none⟩) hWB).trans (hlow (j + 9) (by omega))))
          · exact opOb_add _ _ rfl rfl (OpK.tmp rfl) (OpK.tmp rfl)
          · exact (opOb_move _ rfl (.inl rfl) rfl)
          · refine (opOb_call rfl fun a w' hb hf => ?_)
            have h86 : a.tmps[86]?.getD undef = wv (Wt (word m) (j + 1)) := hf 86 List.mem_cons_self
            refine ⟨86, #[wv (Wt (word m) (j + 1)), .int .u64 7], ?_, (rot_7 _ _).mono fun e w'' ⟨he, hw⟩ => ⟨_, he, rfl, hw ▸ Below.refl _ _⟩⟩
            go_light
            simp [go_sem, h86]
          · exact (opOb_move _ rfl (.inl rfl) rfl)
          · refine (opOb_call rfl fun a w' hb hf => ?_)
            have h88 : a.tmps[88]?.getD undef = wv (Wt (word m) (j + 1)) := hf 88 List.mem_cons_self
            refine ⟨86, #[wv (Wt (word m) (j + 1)), .int .u64 18], ?_, (rot_18 _ _).mono fun e w'' ⟨he, hw⟩ => ⟨_, he, rfl, hw ▸ Below.refl _ _⟩⟩
            go_light
            simp [go_sem, h88]
          · exact opOb_xor _ _ rfl rfl (OpK.tmp rfl) (OpK.tmp rfl)
          · exact (opOb_move _ rfl (.inl rfl) rfl)
          · exact opOb_shr _ 3 (by omega) rfl rfl (OpK.tmp rfl)
          · exact opOb_xor _ _ rfl rfl (OpK.tmp rfl) (OpK.tmp rfl)
          · exact opOb_add _ _ rfl rfl (OpK.tmp rfl) (OpK.tmp rfl)
          · exact (opOb_move _ rfl (.inl rfl) rfl)
          · exact opOb_nsub (j + 16) 16 (j) (by omega) (by omega) rfl rfl (OpK.tmp rfl) OpK.const
          · exact opOb_idx rfl rfl (OpK.tmp rfl) (OpK.tmp rfl) (fun w => run_idx64 w _ _ (j) (by omega))
          · exact opOb_ld rfl rfl (OpK.tmp rfl) (fun w' hb => run_ld32 w' _ _ ((hb.cell (p := ⟨w.heap.size + 2, 0 + (j), none⟩) hWB).trans (hlow (j) (by omega))))
          · exact opOb_add _ _ rfl rfl (OpK.tmp rfl) (OpK.tmp rfl)
          · exact opOb_idx rfl rfl (OpK.tmp rfl) (OpK.tmp rfl) (fun w => run_idx64 w _ _ (j + 16) (by omega))
          · intro w' hb
            simp only [fin, SF.is, forall_eq]
            simp only [Act.put, List.setIfInBounds_toArray, List.set_cons_succ, List.set_cons_zero]
            clear hlow
            have hW' := row_below HW.out hb HW.out.lt
            have hst : (((((rotr (Wt (word m) (j + 14)) 17) ^^^ (rotr (Wt (word m) (j + 14)) 19)) ^^^ ((Wt (word m) (j + 14)) >>> (10 : Nat))) + (Wt (word m) (j + 9))) + (((rotr (Wt (word m) (j + 1)) 7) ^^^ (rotr (Wt (word m) (j + 1)) 18)) ^^^ ((Wt (word m) (j + 1)) >>> (3 : Nat)))) + (Wt (word m) (j)) = Wt (word m) (j + 16) := by
              rw [Wt_step]
              unfold s0 s1
              ac_rfl
            refine wp_store (v := wv (Wt (word m) (j + 16))) rfl rfl rfl (congrArg wv hst) (run_st32 w' _ _ _ (by rw [Nat.zero_add]; exact hW'.cell (i := j + 16) (by omega)) (hW'.frozen _)) ?_
            clear hst
            go_wp2_with fail
            go_roundw
            case rel =>
              have hbel := Hbel.out.trans (hb.mono Hbel.out.size)
              refine ⟨j + 1, by omega, by go_num, (hW'.set (j + 16) _).congr (fun i _ => ?_), row_below (row_below HH.out hb HH.out.lt) (below_setCell (show w.heap.size < w.heap.size + 2 by omega)) (Nat.lt_succ_self _), ⟨z, row_below (row_below Hz.out hb Hz.out.lt) (below_setCell (show w.heap.size + 1 < w.heap.size + 2 by omega)) (Nat.lt_succ_self _)⟩, hbel.setCell (show w.heap.size ≤ w.heap.size + 2 by omega) _⟩
              by_cases e : i = j + 16
              · subst e; rw [if_pos rfl, if_pos (by omega)]
              · rw [if_neg e]
                by_cases e2 : i < j + 16
                · rw [if_pos e2, if_pos (by omega)]
                · rw [if_neg e2, if_neg (by omega)]
            case measure => simp [intOf]; omega
        · obtain rfl : j = 48 := by omega
          have hHB := hH.lt
          have hH8 : ∀ i, i < 8 → wr.cell? ⟨w.heap.size, 0 + i, none⟩ = some (wv (H i)) := fun i hi => by rw [Nat.zero_add]; exact hH.cell hi
          have HW := Lib.hid hW
          have HH := Lib.hid hH
          have Hz := Lib.hid hz
          have Hbel := Lib.hid hbel
          have HH8 := Lib.hid hH8
          clear hW hbel hH hz hH8
          go_wp2_with fail
          have hH := HH8.out
          refine wp_region_facts (B := wr.heap.size) (w0 := wr) [SF.is (.pointer (some ⟨w.heap.size, 0 + (0), none⟩)), SF.is (wv (H 0)), SF.is (.pointer (some ⟨w.heap.size, 0 + (1), none⟩)), SF.is (wv (H 1)), SF.is (.pointer (some ⟨w.heap.size, 0 + (2), none⟩)), SF.is (wv (H 2)), SF.is (.pointer (some ⟨w.heap.size, 0 + (3), none⟩)), SF.is (wv (H 3)), SF.is (.pointer (some ⟨w.heap.size, 0 + (4), none⟩)), SF.is (wv (H 4)), SF.is (.pointer (some ⟨w.heap.size, 0 + (5), none⟩)), SF.is (wv (H 5)), SF.is (.pointer (some ⟨w.heap.size, 0 + (6), none⟩)), SF.is (wv (H 6)), SF.is (.pointer (some ⟨w.heap.size, 0 + (7), none⟩)), SF.is (wv (H 7)), SF.is (wv (H 0)), SF.is (wv (H 1)), SF.is (wv (H 2)), SF.is (wv (H 3)), SF.is (wv (H 4)), SF.is (wv (H 5)), SF.is (wv (H 6)), SF.is (wv (H 7))] (by kernel_rfl) (by kernel_rfl) rfl (Nat.le_refl _) (Below.refl _ _) ⟨?_, ?_, ?_, ?_, ?_, ?_, ?_, ?_, ?_, ?_, ?_, ?_, ?_, ?_, ?_, ?_, ?_, ?_, ?_, ?_, ?_, ?_, ?_, ?_, trivial⟩ ?_
          · exact opOb_idx rfl rfl (OpK.tmp rfl) (OpK.const) (fun w => run_idx8a w _ _ (0) (by omega))
          · exact opOb_ld rfl rfl (OpK.tmp rfl) (fun w' hb => run_ld32 w' _ _ ((hb.cell (p := ⟨w.heap.size, 0 + 0, none⟩) hHB).trans (hH 0 (by omega))))
          · exact opOb_idx rfl rfl (OpK.tmp rfl) (OpK.const) (fun w => run_idx8a w _ _ (1) (by omega))
          · exact opOb_ld rfl rfl (OpK.tmp rfl) (fun w' hb => run_ld32 w' _ _ ((hb.cell (p := ⟨w.heap.size, 0 + 1, none⟩) hHB).trans (hH 1 (by omega))))
          · exact opOb_idx rfl rfl (OpK.tmp rfl) (OpK.const) (fun w => run_idx8a w _ _ (2) (by omega))
          · exact opOb_ld rfl rfl (OpK.tmp rfl) (fun w' hb => run_ld32 w' _ _ ((hb.cell (p := ⟨w.heap.size, 0 + 2, none⟩) hHB).trans (hH 2 (by omega))))
          · exact opOb_idx rfl rfl (OpK.tmp rfl) (OpK.const) (fun w => run_idx8a w _ _ (3) (by omega))
          · exact opOb_ld rfl rfl (OpK.tmp rfl) (fun w' hb => run_ld32 w' _ _ ((hb.cell (p := ⟨w.heap.size, 0 + 3, none⟩) hHB).trans (hH 3 (by omega))))
          · exact opOb_idx rfl rfl (OpK.tmp rfl) (OpK.const) (fun w => run_idx8a w _ _ (4) (by omega))
          · exact opOb_ld rfl rfl (OpK.tmp rfl) (fun w' hb => run_ld32 w' _ _ ((hb.cell (p := ⟨w.heap.size, 0 + 4, none⟩) hHB).trans (hH 4 (by omega))))
          · exact opOb_idx rfl rfl (OpK.tmp rfl) (OpK.const) (fun w => run_idx8a w _ _ (5) (by omega))
          · exact opOb_ld rfl rfl (OpK.tmp rfl) (fun w' hb => run_ld32 w' _ _ ((hb.cell (p := ⟨w.heap.size, 0 + 5, none⟩) hHB).trans (hH 5 (by omega))))
          · exact opOb_idx rfl rfl (OpK.tmp rfl) (OpK.const) (fun w => run_idx8a w _ _ (6) (by omega))
          · exact opOb_ld rfl rfl (OpK.tmp rfl) (fun w' hb => run_ld32 w' _ _ ((hb.cell (p := ⟨w.heap.size, 0 + 6, none⟩) hHB).trans (hH 6 (by omega))))
          · exact opOb_idx rfl rfl (OpK.tmp rfl) (OpK.const) (fun w => run_idx8a w _ _ (7) (by omega))
          · exact opOb_ld rfl rfl (OpK.tmp rfl) (fun w' hb => run_ld32 w' _ _ ((hb.cell (p := ⟨w.heap.size, 0 + 7, none⟩) hHB).trans (hH 7 (by omega))))
          · exact (opOb_move _ rfl (.inr rfl) rfl)
          · exact (opOb_move _ rfl (.inr rfl) rfl)
          · exact (opOb_move _ rfl (.inr rfl) rfl)
          · exact (opOb_move _ rfl (.inr rfl) rfl)
          · exact (opOb_move _ rfl (.inr rfl) rfl)
          · exact (opOb_move _ rfl (.inr rfl) rfl)
          · exact (opOb_move _ rfl (.inr rfl) rfl)
          · exact (opOb_move _ rfl (.inr rfl) rfl)
          · intro w' hb
            simp only [fin, SF.is, forall_eq]
            simp only [Act.put, List.setIfInBounds_toArray, List.set_cons_succ, List.set_cons_zero]
            clear hH
            have b12 := hb
            have HW2 := Lib.hid (row_below HW.out b12 HW.out.lt)
            have HH2 := Lib.hid (row_below HH.out b12 HH.out.lt)
            have Hz2 := Lib.hid (row_below Hz.out b12 Hz.out.lt)
            have Hbel2 := Lib.hid (Hbel.out.trans (b12.mono Hbel.out.size))
            clear hb b12 HW HH Hz Hbel HH8
            go_wp2_with fail
            go_loopw [10, 11, 12, 13, 14, 15, 16, 17, 18] (fun v10 v11 v12 v13 v14 v15 v16 v17 v18 wr => ∃ (t : Nat) (s : S8), t ≤ 64 ∧ s = rounds (word m) (S8.of H) t ∧ v10 = wv s.a ∧ v11 = wv s.b ∧ v12 = wv s.c ∧ v13 = wv s.d ∧ v14 = wv s.e ∧ v15 = wv s.f ∧ v16 = wv s.g ∧ v17 = wv s.h ∧ v18 = .int .i64 (t : Int) ∧ wr.rowIs (w.heap.size + 2) 146 64 (fun i => if i < 48 + 16 then wv (Wt (word m) i) else wv 0) ∧ wr.rowIs w.heap.size 127 8 (fun j => wv (H j)) ∧ (∃ z, wr.rowIs (w.heap.size + 1) 127 8 z) ∧ Below w.heap.size w wr) (fun _ _ _ _ _ _ _ _ i _ => 64 - (intOf i).toNat)
            case atStart => exact ⟨0, S8.of H, by omega, rfl, rfl, rfl, rfl, rfl, rfl, rfl, rfl, rfl, rfl, HW2.out, HH2.out, ⟨_, Hz2.out⟩, Hbel2.out⟩
            case round =>
              clear HW2 HH2 Hz2 Hbel2
              obtain ⟨t, s, ht, hs, rfl, rfl, rfl, rfl, rfl, rfl, rfl, rfl, rfl, hW, hH, ⟨z, hz⟩, hbel⟩ := hrel
              by_cases ht64 : t < 64
              · have hWB := hW.lt
                have hGB : 1 < wr.heap.size := Nat.lt_of_lt_of_le hG0 hbel.size
                have hKt : wr.cell? ⟨1, 0 + t, none⟩ = some (wv (kw t)) := by rw [Nat.zero_add]; exact (hbel.cell (p := ⟨1, t, none⟩) hG0).trans (HK.out t ht64)
                have hWt : wr.cell? ⟨w.heap.size + 2, 0 + t, none⟩ = some (wv (Wt (word m) t)) := by rw [Nat.zero_add, hW.cell ht64, if_pos (by omega)]
                have HW := Lib.hid hW
                have HH := Lib.hid hH
                have Hz := Lib.hid hz
                have Hbel := Lib.hid hbel
                have HS := Lib.hid hs
                have HKt := Lib.hid hKt
                have HWt := Lib.hid hWt
                clear hW hbel hH hz hs hKt hWt
                go_wp2_with fail
                have hKt := HKt.out
                have hWt := HWt.out
                refine wp_region_facts (B := wr.heap.size) (w0 := wr) [SF.is (wv (s.h)), SF.is (wv (s.e)), SF.is (wv (rotr (s.e) 6)), SF.is (wv (s.e)), SF.is (wv (rotr (s.e) 11)), SF.is (wv ((rotr (s.e) 6) ^^^ (rotr (s.e) 11))), SF.is (wv (s.e)), SF.is (wv (rotr (s.e) 25)), SF.is (wv (((rotr (s.e) 6) ^^^ (rotr (s.e) 11)) ^^^ (rotr (s.e) 25))), SF.is (wv ((s.h) + (((rotr (s.e) 6) ^^^ (rotr (s.e) 11)) ^^^ (rotr (s.e) 25)))), SF.is (wv (s.e)), SF.is (wv (s.f)), SF.is (wv ((s.e) &&& (s.f))), SF.is (wv (s.e)), SF.is (wv (~~~s.e)), SF.is (wv (s.g)), SF.is (wv ((~~~s.e) &&& (s.g))), SF.is (wv (((s.e) &&& (s.f)) ^^^ ((~~~s.e) &&& (s.g)))), SF.is (wv (((s.h) + (((rotr (s.e) 6) ^^^ (rotr (s.e) 11)) ^^^ (rotr (s.e) 25))) + (((s.e) &&& (s.f)) ^^^ ((~~~s.e) &&& (s.g))))), SF.is (.int .i64 ((t : Nat) : Int)), SF.is (.pointer (some ⟨1, 0 + (t), none⟩)), SF.is (wv (kw t)), SF.is (wv ((((s.h) + (((rotr (s.e) 6) ^^^ (rotr (s.e) 11)) ^^^ (rotr (s.e) 25))) + (((s.e) &&& (s.f)) ^^^ ((~~~s.e) &&& (s.g)))) + (kw t))), SF.is (.int .i64 ((t : Nat) : Int)), SF.is (.pointer (some ⟨w.heap.size + 2, 0 + (t), none⟩)), SF.is (wv (Wt (word m) t)), SF.is (wv (((((s.h) + (((rotr (s.e) 6) ^^^ (rotr (s.e) 11)) ^^^ (rotr (s.e) 25))) + (((s.e) &&& (s.f)) ^^^ ((~~~s.e) &&& (s.g)))) + (kw t)) + (Wt (word m) t))), SF.is (wv (((((s.h) + (((rotr (s.e) 6) ^^^ (rotr (s.e) 11)) ^^^ (rotr (s.e) 25))) + (((s.e) &&& (s.f)) ^^^ ((~~~s.e) &&& (s.g)))) + (kw t)) + (Wt (word m) t)))] (by kernel_rfl) (by kernel_rfl) rfl (Nat.le_refl _) (Below.refl _ _) ⟨?_, ?_, ?_, ?_, ?_, ?_, ?_, ?_, ?_, ?_, ?_, ?_, ?_, ?_, ?_, ?_, ?_, ?_, ?_, ?_, ?_, ?_, ?_, ?_, ?_, ?_, ?_, ?_, trivial⟩ ?_
                · exact (opOb_move _ rfl (.inl rfl) rfl)
                · exact (opOb_move _ rfl (.inl rfl) rfl)
                · refine (opOb_call rfl fun a w' hb hf => ?_)
                  have h122 : a.tmps[122]?.getD undef = wv (s.e) := hf 122 List.mem_cons_self
                  refine ⟨86, #[wv (s.e), .int .u64 6], ?_, (rot_6 _ _).mono fun e w'' ⟨he, hw⟩ => ⟨_, he, rfl, hw ▸ Below.refl _ _⟩⟩
                  go_light
                  simp [go_sem, h122]
                · exact (opOb_move _ rfl (.inl rfl) rfl)
                · refine (opOb_call rfl fun a w' hb hf => ?_)
                  have h124 : a.tmps[124]?.getD undef = wv (s.e) := hf 124 List.mem_cons_self
                  refine ⟨86, #[wv (s.e), .int .u64 11], ?_, (rot_11 _ _).mono fun e w'' ⟨he, hw⟩ => ⟨_, he, rfl, hw ▸ Below.refl _ _⟩⟩
                  go_light
                  simp [go_sem, h124]
                · exact opOb_xor _ _ rfl rfl (OpK.tmp rfl) (OpK.tmp rfl)
                · exact (opOb_move _ rfl (.inl rfl) rfl)
                · refine (opOb_call rfl fun a w' hb hf => ?_)
                  have h127 : a.tmps[127]?.getD undef = wv (s.e) := hf 127 List.mem_cons_self
                  refine ⟨86, #[wv (s.e), .int .u64 25], ?_, (rot_25 _ _).mono fun e w'' ⟨he, hw⟩ => ⟨_, he, rfl, hw ▸ Below.refl _ _⟩⟩
                  go_light
                  simp [go_sem, h127]
                · exact opOb_xor _ _ rfl rfl (OpK.tmp rfl) (OpK.tmp rfl)
                · exact opOb_add _ _ rfl rfl (OpK.tmp rfl) (OpK.tmp rfl)
                · exact (opOb_move _ rfl (.inl rfl) rfl)
                · exact (opOb_move _ rfl (.inl rfl) rfl)
                · exact opOb_and _ _ rfl rfl (OpK.tmp rfl) (OpK.tmp rfl)
                · exact (opOb_move _ rfl (.inl rfl) rfl)
                · exact opOb_not _ rfl rfl (OpK.tmp rfl)
                · exact (opOb_move _ rfl (.inl rfl) rfl)
                · exact opOb_and _ _ rfl rfl (OpK.tmp rfl) (OpK.tmp rfl)
                · exact opOb_xor _ _ rfl rfl (OpK.tmp rfl) (OpK.tmp rfl)
                · exact opOb_add _ _ rfl rfl (OpK.tmp rfl) (OpK.tmp rfl)
                · exact (opOb_move _ rfl (.inl rfl) rfl)
                · exact opOb_idx rfl rfl (OpK.glob) (OpK.tmp rfl) (fun w => run_idx64 w _ _ (t) (by omega))
                · exact opOb_ld rfl rfl (OpK.tmp rfl) (fun w' hb => run_ld32 w' _ _ ((hb.cell (p := ⟨1, 0 + t, none⟩) hGB).trans hKt))
                · exact opOb_add _ _ rfl rfl (OpK.tmp rfl) (OpK.tmp rfl)
                · exact (opOb_move _ rfl (.inl rfl) rfl)
                · exact opOb_idx rfl rfl (OpK.tmp rfl) (OpK.tmp rfl) (fun w => run_idx64 w _ _ (t) (by omega))
                · exact opOb_ld rfl rfl (OpK.tmp rfl) (fun w' hb => run_ld32 w' _ _ ((hb.cell (p := ⟨w.heap.size + 2, 0 + t, none⟩) hWB).trans hWt))
                · exact opOb_add _ _ rfl rfl (OpK.tmp rfl) (OpK.tmp rfl)
                · exact (opOb_move _ rfl (.inr rfl) rfl)
                · intro w' hb
                  simp only [fin, SF.is, forall_eq]
                  simp only [Act.put, List.setIfInBounds_toArray, List.set_cons_succ, List.set_cons_zero]
                  clear hKt hWt
                  have b16 := hb
                  clear hb
                  obtain ⟨T1, hT1⟩ : ∃ x, x = ((((s.h) + (((rotr (s.e) 6) ^^^ (rotr (s.e) 11)) ^^^ (rotr (s.e) 25))) + (((s.e) &&& (s.f)) ^^^ ((~~~s.e) &&& (s.g)))) + (kw t)) + (Wt (word m) t) := ⟨_, rfl⟩
                  rw [← hT1]
                  have HT1 := Lib.hid hT1
                  clear hT1
                  go_wp2_with (first
              | (go_at_call_of 86 (Value.int IntKind.u64 2); refine (rot_2 _ _).mono ?_; rintro e w9 ⟨rfl, rfl⟩)
              | (go_at_call_of 86 (Value.int IntKind.u64 13); refine (rot_13 _ _).mono ?_; rintro e w9 ⟨rfl, rfl⟩)
              | (go_at_call_of 86 (Value.int IntKind.u64 22); refine (rot_22 _ _).mono ?_; rintro e w9 ⟨rfl, rfl⟩))
                  simp only [u32_xor, u32_and, u32_add]
                  refine ⟨?_, ?measure⟩
                  iterate 20 apply Exists.intro
                  (repeat apply Exists.intro)
                  refine ⟨?rel, rfl⟩
                  case rel =>
                    have E1 : T1 = one (kw t) (Wt (word m) t) s := by rw [HT1.out, ch_ref]; rfl
                    exact ⟨t + 1, (step (kw t) (Wt (word m) t) s), by omega, by rw [HS.out]; rfl, congrArg wv (by rw [E1, maj_ref]; rfl), rfl, rfl, rfl, congrArg wv (by rw [E1]; rfl), rfl, rfl, rfl, by go_num, row_below HW.out b16 HW.out.lt, row_below HH.out b16 HH.out.lt, ⟨z, row_below Hz.out b16 Hz.out.lt⟩, Hbel.out.trans (b16.mono Hbel.out.size)⟩
                  case measure => simp [intOf]; omega
              · obtain rfl : t = 64 := by omega
                have HW := Lib.hid hW
                have HH := Lib.hid hH
                have Hz := Lib.hid hz
                have Hbel := Lib.hid hbel
                have HS := Lib.hid hs
                have c0 := hH.cell (i := 0) (by omega)
                have c1 := hH.cell (i := 1) (by omega)
                have c2 := hH.cell (i := 2) (by omega)
                have c3 := hH.cell (i := 3) (by omega)
                have c4 := hH.cell (i := 4) (by omega)
                have c5 := hH.cell (i := 5) (by omega)
                have c6 := hH.cell (i := 6) (by omega)
                have c7 := hH.cell (i := 7) (by omega)
                obtain ⟨cz, hcz, hsz, _⟩ := hz
                have Hcz := Lib.hid hcz
                have Hsz := Lib.hid hsz
                clear hW hbel hH hs hcz hsz
                go_wp2_with (refine wpList_store_row rfl 127 (.tmp 4) (.tmp 212) rfl (w.heap.size + 1) _ rfl rfl 127 cz Hcz.out ?c1 ?c2 ?c3 ?_)
                case c1 => kernel_rfl
                case c2 => exact Hsz.out
                case c3 => simp [Value.oneCell']
                simp only [u32_add]
                refine ret_row rfl (w.heap.size + 1) 127 _ (0, 0) _ rfl (heap_setRow Hcz.out _) Tryd.underlying127 rfl (by kernel_rfl) rfl ⟨?_, Hbel.out.trans (below_setRow _ (Nat.le_succ _))⟩
                have hgo : ∀ i, i < 8 → H i + s.get i = comp H m i := fun i hi => by unfold comp; rw [HS.out]
                have g0 : H 0 + s.a = comp H m 0 := hgo 0 (by omega)
                have g1 : H 1 + s.b = comp H m 1 := hgo 1 (by omega)
                have g2 : H 2 + s.c = comp H m 2 := hgo 2 (by omega)
                have g3 : H 3 + s.d = comp H m 3 := hgo 3 (by omega)
                have g4 : H 4 + s.e = comp H m 4 := hgo 4 (by omega)
                have g5 : H 5 + s.f = comp H m 5 := hgo 5 (by omega)
                have g6 : H 6 + s.g = comp H m 6 := hgo 6 (by omega)
                have g7 : H 7 + s.h = comp H m 7 := hgo 7 (by omega)
                rw [g0, g1, g2, g3, g4, g5, g6, g7]
end Go.Proofs.YtjhgndnpihnidaaDoor
/- The walks of the reference: Padded, Sum, Two. -/
namespace Go.Proofs.YtjhgndnpihnidaaDoor
set_option maxRecDepth 40000
open Go.RowKit

theorem u8_info : (Tryd.prog.info? 5).map (fun i => (i.zero, i.size, i.bytes)) = some (some (.int .u8 0), 1, 1) := by kernel_rfl
theorem pad_first (n : Nat) (x : Nat → Nat) : ∀ i, i < n → catF 0 (u8v x) (u8v x) i = u8v (padF n x) i := fun i hi => by
  simp only [catF, u8v, padF]; rw [if_neg (by omega), Nat.sub_zero, if_pos hi]
theorem pad_one (n : Nat) (x : Nat → Nat) : ∀ i, i < n + 1 → catF n (u8v (padF n x)) (fun _ => .int .u8 128) i = u8v (padF n x) i := fun i hi => by
  simp only [catF, u8v]
  by_cases h : i < n
  · rw [if_pos h]
  · rw [if_neg h]; unfold padF; rw [if_neg h, if_pos (by omega)]; rfl
theorem pad_zero (n k : Nat) (x : Nat → Nat) (h1 : n < k) (h2 : k < 64 * nb n - 8) : ∀ i, i < k + 1 → catF k (u8v (padF n x)) (fun _ => .int .u8 0) i = u8v (padF n x) i := fun i hi => by
  simp only [catF, u8v]
  by_cases h : i < k
  · rw [if_pos h]
  · rw [if_neg h]; unfold padF; rw [if_neg (by omega), if_neg (by omega), if_pos (by omega)]; rfl
theorem pad_len (n p k : Nat) (x : Nat → Nat) (v : Value) (hk : k = 64 * nb n - (p + 1)) (hp : p < 8) (hv : v = .int .u8 ((8 * n % 18446744073709551616 / 2 ^ (8 * p) % 256 : Nat) : Int)) : ∀ i, i < k + 1 → catF k (u8v (padF n x)) (fun _ => v) i = u8v (padF n x) i := fun i hi => by
  have hnb : n < 64 * nb n - 8 := by unfold nb; omega
  simp only [catF, u8v]
  by_cases h : i < k
  · rw [if_pos h]
  · rw [if_neg h, hv]; unfold padF; rw [if_neg (by omega), if_neg (by omega), if_neg (by omega), show 64 * nb n - 1 - i = p by omega]

theorem len_val (n p : Nat) (hn : n ≤ 140737488355200) : Value.int .u8 ((n : Int) * 8 / 2 ^ (8 * p) % 256) = .int .u8 ((8 * n % 18446744073709551616 / 2 ^ (8 * p) % 256 : Nat) : Int) := by
  rw [Nat.mod_eq_of_lt (show 8 * n < 18446744073709551616 by omega), show (n : Int) * 8 = ((8 * n : Nat) : Int) by omega]
  generalize 8 * n = b
  simp

set_option maxHeartbeats 2000000 in
theorem padded_any (n c : Nat) (A : Option Addr) (x : Nat → Nat) (w : World) (hb : Rd w w.heap.size A n (u8v x)) (hn : n ≤ 140737488355200) :
    Calls Tryd.prog 73 #[.slice A n c] w fun e w' => ∃ A' c', e = .returned (.slice A' (64 * nb n) c') ∧ Own w' w.heap.size 5 A' (64 * nb n) c' (u8v (padF n x)) ∧ Below w.heap.size w w' := by
  have HB := Lib.hid hb
  have hnb : n < 64 * nb n - 8 ∧ 64 * nb n ≤ n + 72 ∧ 8 ≤ 64 * nb n := by unfold nb; omega
  have HF1 := Lib.hid (pad_first n x)
  have HF2 := Lib.hid (pad_one n x)
  clear hb
  go_enter Tryd.func73, Tryd.ntmps73
  go_wp2_with (first
    | (at_builtin; refine wpList_app _ (.tmp 6) (.tmp 7) 39 w.heap.size u8_info Tryd.underlying39 rfl rfl rfl n (u8v (padF n x)) rfl rfl (Own.new0 _ _ _ (u8v x) (Nat.le_refl _)) (HB.out.alloc (Nat.le_refl _) _) (fun _ _ => rfl) (Nat.zero_add _).symm HF1.out ⟨by omega, by omega⟩ (by simp) ?_; intro A1 c1 w1 o1 g1 b1; have O1 := Lib.hid (And.intro o1 (And.intro g1 b1)); clear o1 g1 b1)
    | (at_builtin; refine wpList_app _ (.tmp 8) (.tmp 9) 39 w.heap.size u8_info Tryd.underlying39 rfl rfl rfl (n + 1) (u8v (padF n x)) rfl rfl (O1.out.1.alloc _) (Rd.one _ _ _) (fun _ _ => rfl) rfl HF2.out ⟨by omega, by omega⟩ (by have := O1.out.2.1.size; simp at this; simp; omega) ?_; intro A2 c2 w2 o2 g2 b2; have O2 := Lib.hid (And.intro o2 (And.intro g2 b2)); clear o2 g2 b2))
  have hb1 : Below w.heap.size w w1 := below_app ((Below.refl _ w).alloc (Nat.le_refl _) _) O1.out.2.1 (by simp) (by rintro ad h; injection h with h; subst h; exact Nat.le_refl _)
  have hb2 : Below w.heap.size w w2 := below_app (hb1.alloc hb1.size _) O2.out.2.1 (by have := hb1.size; simp; omega) (fun ad h => (O1.out.1.base_le ad h).1)
  have HO := Lib.hid O2.out.1
  have HB2 := Lib.hid hb2
  clear hb1 hb2 O1 O2
  go_loopw [3] (fun s wr => ∃ (k : Nat) (Ak : Option Addr) (ck : Nat), s = .slice Ak k ck ∧ n < k ∧ k ≤ 64 * nb n - 8 ∧ Own wr w.heap.size 5 Ak k ck (u8v (padF n x)) ∧ Below w.heap.size w wr) (fun s _ => match s with | .slice _ k _ => 64 * nb n - 8 - k | _ => 0)
  case atStart => exact ⟨n + 1, A2, c2, rfl, by omega, by omega, HO.out, HB2.out⟩
  case round =>
    clear HO HB2
    obtain ⟨k, Ak, ck, rfl, hk1, hk2, hown, hbel⟩ := hrel
    have HO := Lib.hid hown
    have HBl := Lib.hid hbel
    clear hown hbel
    by_cases hk : k < 64 * nb n - 8
    · have hne : ((k : Int) % 64 != 56) = true := by rw [bne_iff_ne]; unfold nb at hk; omega
      have HF3 := Lib.hid (pad_zero n k x hk1 hk)
      go_wp2_with (at_builtin; refine wpList_app _ (.tmp 15) (.tmp 16) 39 w.heap.size u8_info Tryd.underlying39 rfl rfl rfl (k + 1) (u8v (padF n x)) rfl rfl (HO.out.alloc _) (Rd.one _ _ _) (fun _ _ => rfl) rfl HF3.out ⟨by omega, by omega⟩ (by have := HBl.out.size; simp; omega) ?_; intro A3 c3 w3 o3 g3 b3; have O3 := Lib.hid (And.intro o3 (And.intro g3 b3)); clear o3 g3 b3)
      have hb3 : Below w.heap.size w w3 := below_app (HBl.out.alloc HBl.out.size _) O3.out.2.1 (by have := HBl.out.size; simp; omega) (fun ad h => (HO.out.base_le ad h).1)
      have HB3 := Lib.hid hb3
      clear hb3
      go_roundw
      case rel => exact ⟨k + 1, A3, c3, rfl, by omega, by omega, O3.out.1, HB3.out⟩
      case measure => show 64 * nb n - 8 - (k + 1) < 64 * nb n - 8 - k; omega
    · have hne : ((k : Int) % 64 != 56) = false := by rw [bne_eq_false_iff_eq]; omega
      go_wp2_with fail
      go_loopw [3, 5] (fun s t wr => ∃ (p : Nat) (e : Int) (Ak : Option Addr) (ck : Nat), s = .slice Ak (64 * nb n - p) ck ∧ t = .int .i64 e ∧ e = (p : Int) - 1 ∧ p ≤ 8 ∧ Own wr w.heap.size 5 Ak (64 * nb n - p) ck (u8v (padF n x)) ∧ Below w.heap.size w wr) (fun _ t _ => (intOf t + 1).toNat)
      case atStart =>
        obtain rfl : k = 64 * nb n - 8 := by omega
        exact ⟨8, 7, Ak, ck, rfl, rfl, rfl, by omega, HO.out, HBl.out⟩
      case round =>
        clear HO HBl hne hk
        obtain ⟨p, e, Ap, cp, rfl, rfl, he, hp8, hown, hbel⟩ := hrel
        have HO := Lib.hid hown
        have HBl := Lib.hid hbel
        clear hown hbel
        rcases p with _ | p
        · obtain rfl : e = -1 := by omega
          clear he
          go_wp2_with fail
          go_ret
          exact ⟨Ap, cp, rfl, HO.out, HBl.out⟩
        · obtain rfl : e = (p : Int) := by omega
          clear he
          have HF4 := Lib.hid (pad_len n p (64 * nb n - (p + 1)) x (.int .u8 ((n : Int) * 8 / 2 ^ (8 * p) % 256)) rfl (by omega) (len_val n p (by omega)))
          go_wp2_with (at_builtin; refine wpList_app _ (.tmp 26) (.tmp 33) 39 w.heap.size u8_info Tryd.underlying39 rfl rfl rfl (64 * nb n - (p + 1) + 1) (u8v (padF n x)) rfl rfl (HO.out.alloc _) (Rd.one _ _ _) (fun _ _ => rfl) rfl HF4.out ⟨by omega, by omega⟩ (by have := HBl.out.size; simp; omega) ?_; intro A3 c3 w3 o3 g3 b3; have O3 := Lib.hid (And.intro o3 (And.intro g3 b3)); clear o3 g3 b3)
          have hb3 : Below w.heap.size w w3 := below_app (HBl.out.alloc HBl.out.size _) O3.out.2.1 (by have := HBl.out.size; simp; omega) (fun ad h => (HO.out.base_le ad h).1)
          have HB3 := Lib.hid hb3
          clear hb3
          go_roundw
          case rel => exact ⟨p, (p : Int) - 1, A3, c3, by rw [show 64 * nb n - (p + 1) + 1 = 64 * nb n - p by omega], rfl, rfl, by omega, by have := O3.out.1; rwa [show 64 * nb n - (p + 1) + 1 = 64 * nb n - p by omega] at this, HB3.out⟩
          case measure => simp only [intOf]; omega
end Go.Proofs.YtjhgndnpihnidaaDoor
/- The eight bytes of a number, by the program and by the reference. -/
namespace Go.Proofs.YtjhgndnpihnidaaDoor
set_option maxRecDepth 40000
open Go.RowKit
/-- The first n of v, and zeros. -/
def padN (n : Nat) (v : Nat → Nat) : Nat → Nat := fun i => if i < n then v i else 0
theorem padN_lt {n : Nat} {v : Nat → Nat} (hv : ∀ i, v i < 256) (i : Nat) : padN n v i < 256 := by unfold padN; split; exact hv i; omega
/-- How many chunks n bytes fill. -/
def nch (n : Nat) : Nat := (n + 31) / 32
/-- Byte i of n. -/
def leB (n i : Nat) : Nat := n / 2 ^ (8 * i) % 256
theorem leB_lt (n i : Nat) : leB n i < 256 := Nat.mod_lt _ (by omega)
theorem le_byte (n j : Nat) : Value.int .u8 ((n : Int) / 2 ^ (8 * j) % 256) = .int .u8 ((leB n j : Nat) : Int) := by
  unfold leB; simp
theorem le_step {n j i : Nat} (v : Value) (hv : v = .int .u8 ((leB n j : Nat) : Int)) : (if i = j then v else u8v (fun i => if i < j then leB n i else 0) i) = u8v (fun i => if i < j + 1 then leB n i else 0) i := by
  by_cases e : i = j
  · subst e; rw [if_pos rfl, hv]; simp only [u8v]; rw [if_pos (by omega)]
  · rw [if_neg e]; simp only [u8v]
    by_cases e2 : i < j
    · rw [if_pos e2, if_pos (by omega)]
    · rw [if_neg e2, if_neg (by omega)]
set_option maxHeartbeats 1000000 in
theorem bytes_look (n : Nat) (w : World) :
    Calls Tryd.prog 71 #[.int .u64 (n : Int)] w fun e w' => e = .returned (.agg (arr 8 (u8v (leB n)))) ∧ Below w.heap.size w w' := by
  have H0 := Lib.hid (((HS.nil w).allocB _ _ 103 8 (u8v fun _ => 0) (by rfl) (zero_at 8 (.int .u8 0)) rfl).allocB (w.heap.size + 1) _ 103 8 (u8v fun i => if i < 0 then leB n i else 0) (by rfl) (zero_at 8 (.int .u8 0)) (by simp))
  go_enter Tryd.func71, Tryd.ntmps71
  go_wp2_with fail
  go_loopw [5] (fun i wq => ∃ j : Nat, j ≤ 8 ∧ i = .int .i64 j ∧ HS w wq [⟨w.heap.size + 1, 103, 8, u8v fun i => if i < j then leB n i else 0⟩, ⟨w.heap.size, 103, 8, u8v fun _ => 0⟩]) (fun i _ => 8 - (intOf i).toNat)
  case atStart => exact ⟨0, by omega, rfl, H0.out⟩
  case round =>
    clear H0
    obtain ⟨j, hj, rfl, hs⟩ := hrel
    by_cases hj8 : j < 8
    · have co := hs.cell 0 j rfl hj8
      have fo := hs.frozen 0 j rfl
      have HSq := Lib.hid hs
      clear hs
      go_wp2_with fail
      go_roundw
      case rel => exact ⟨j + 1, by omega, by go_num, (HSq.out.set 0 j rfl _).congr 0 rfl (fun i _ => le_step _ (le_byte n j))⟩
      case measure => simp [intOf]; omega
    · obtain rfl : j = 8 := by omega
      have HX := Lib.hid (heap_arr (hs.row 0 rfl))
      have HR := Lib.hid (hs.row 1 rfl)
      have HSq := Lib.hid hs
      clear hs
      go_wp2_with (first
        | (refine wpList_load_row rfl 103 (.tmp 3) rfl (w.heap.size + 1) rfl 103 _ _ _ HX.out Tryd.underlying103 rfl (by kernel_rfl) ?_)
        | (refine wpList_store_arr rfl 103 (.tmp 2) (.tmp 16) rfl HR.out _ rfl rfl (size_arr _ _) (by kernel_rfl) (fun i hi => ⟨_, arr_at _ _ i hi, rfl⟩) ?_))
      have hend := HSq.out.setRow 1 rfl (arr 8 (u8v fun i => if i < 8 then leB n i else 0)) (size_arr _ _) _ (fun i hi => arr_at _ _ i hi)
      refine ret_rowIs rfl (hend.row 1 rfl) _ rfl Tryd.underlying103 rfl (by kernel_rfl) rfl ?_
      refine ⟨?_, hend.out (by simp)⟩
      rw [arr_congr (g := u8v (leB n)) (fun i hi => by simp only [u8v]; rw [if_pos hi])]
set_option maxHeartbeats 1000000 in
theorem bytes_ref (n : Nat) (w : World) :
    Calls Tryd.prog 51 #[.int .u64 (n : Int)] w fun e w' => e = .returned (.agg (arr 8 (u8v (leB n)))) ∧ Below w.heap.size w w' := by
  have H0 := Lib.hid (((HS.nil w).allocB _ _ 103 8 (u8v fun _ => 0) (by rfl) (zero_at 8 (.int .u8 0)) rfl).allocB (w.heap.size + 1) _ 103 8 (u8v fun i => if i < 0 then leB n i else 0) (by rfl) (zero_at 8 (.int .u8 0)) (by simp))
  go_enter Tryd.func51, Tryd.ntmps51
  go_wp2_with fail
  go_loopw [4] (fun i wq => ∃ j : Nat, j ≤ 8 ∧ i = .int .i64 j ∧ HS w wq [⟨w.heap.size + 1, 103, 8, u8v fun i => if i < j then leB n i else 0⟩, ⟨w.heap.size, 103, 8, u8v fun _ => 0⟩]) (fun i _ => 8 - (intOf i).toNat)
  case atStart => exact ⟨0, by omega, rfl, H0.out⟩
  case round =>
    clear H0
    obtain ⟨j, hj, rfl, hs⟩ := hrel
    by_cases hj8 : j < 8
    · have co := hs.cell 0 j rfl hj8
      have fo := hs.frozen 0 j rfl
      have HSq := Lib.hid hs
      clear hs
      go_wp2_with fail
      go_roundw
      case rel => exact ⟨j + 1, by omega, by go_num, (HSq.out.set 0 j rfl _).congr 0 rfl (fun i _ => le_step _ (le_byte n j))⟩
      case measure => simp [intOf]; omega
    · obtain rfl : j = 8 := by omega
      have HX := Lib.hid (heap_arr (hs.row 0 rfl))
      have HR := Lib.hid (hs.row 1 rfl)
      have HSq := Lib.hid hs
      clear hs
      go_wp2_with (first
        | (refine wpList_load_row rfl 103 (.tmp 3) rfl (w.heap.size + 1) rfl 103 _ _ _ HX.out Tryd.underlying103 rfl (by kernel_rfl) ?_)
        | (refine wpList_store_arr rfl 103 (.tmp 2) (.tmp 17) rfl HR.out _ rfl rfl (size_arr _ _) (by kernel_rfl) (fun i hi => ⟨_, arr_at _ _ i hi, rfl⟩) ?_))
      have hend := HSq.out.setRow 1 rfl (arr 8 (u8v fun i => if i < 8 then leB n i else 0)) (size_arr _ _) _ (fun i hi => arr_at _ _ i hi)
      refine ret_rowIs rfl (hend.row 1 rfl) _ rfl Tryd.underlying103 rfl (by kernel_rfl) rfl ?_
      refine ⟨?_, hend.out (by simp)⟩
      rw [arr_congr (g := u8v (leB n)) (fun i hi => by simp only [u8v]; rw [if_pos hi])]
end Go.Proofs.YtjhgndnpihnidaaDoor
/- Shuffles, in plain terms: rounds, where a place is taken, and back. -/
namespace Go.Proofs.YtjhgndnpihnidaaDoor
set_option maxRecDepth 40000
/-- The first k bytes as a number, the lowest first. -/
def rdN (x : Nat → Nat) : Nat → Nat
  | 0 => 0
  | k + 1 => rdN x k + x k * 2 ^ (8 * k)
theorem rdN_lt {x : Nat → Nat} (hx : ∀ i, x i < 256) : ∀ k, rdN x k < 2 ^ (8 * k) := by
  intro k
  induction k with
  | zero => simp [rdN]
  | succ k ih =>
    rw [rdN, show 8 * (k + 1) = 8 * k + 8 by omega, Nat.pow_add]
    generalize 2 ^ (8 * k) = P at ih
    have h1 : x k * P ≤ 255 * P := Nat.mul_le_mul_right P (by have := hx k; omega)
    omega
theorem rdN_low (x : Nat → Nat) : ∀ k, rdN x (k + 1) = x 0 + 256 * rdN (fun i => x (i + 1)) k := by
  intro k
  induction k with
  | zero => simp [rdN]
  | succ k ih =>
    have e : 2 ^ (8 * (k + 1)) = 2 ^ (8 * k) * 256 := by rw [show 8 * (k + 1) = 8 * k + 8 by omega, Nat.pow_add]
    rw [rdN, ih, e, rdN]
    generalize 2 ^ (8 * k) = P
    rw [← Nat.mul_assoc, Nat.mul_add, ← Nat.add_assoc, Nat.mul_comm 256 (x (k + 1) * P)]
theorem rdN_congr {x y : Nat → Nat} : ∀ k, (∀ i, i < k → x i = y i) → rdN x k = rdN y k := by
  intro k
  induction k with
  | zero => intro _; rfl
  | succ k ih => intro h; rw [rdN, rdN, ih (fun i hi => h i (by omega)), h k (by omega)]
/-- What a round's digest has taken in. -/
def preN (s : Nat → Nat) (r : Nat) : Nat → Nat := catN 32 s (fun _ => r)
theorem preN_lt {s : Nat → Nat} {r : Nat} (hs : ∀ i, s i < 256) (hr : r < 256) : ∀ i, preN s r i < 256 := catN_lt hs (fun _ => hr)
/-- A round's pivot. -/
def pivN (s : Nat → Nat) (n r : Nat) : Nat := rdN (shaB (preN s r) 33) 8 % n
theorem pivN_lt (s : Nat → Nat) {n : Nat} (r : Nat) (hn : 0 < n) : pivN s n r < n := Nat.mod_lt _ hn
/-- Block k of a round. -/
def blkN (s : Nat → Nat) (r k : Nat) : Nat → Nat := shaB (catN 33 (preN s r) (leB k)) 37
theorem blkN_lt (s : Nat → Nat) (r k : Nat) : ∀ i, blkN s r k i < 256 := fun i => shaB_lt _ _ i
/-- The bit of a block. -/
def bitN (b : Nat → Nat) (p : Nat) : Bool := b (p % 256 / 8) / 2 ^ (p % 8) % 2 == 1
/-- A place's flip. -/
def flipN (v n i : Nat) : Nat := if i ≤ v then v - i else v + n - i
theorem flip_lt {v n i : Nat} (hv : v < n) (hi : i < n) : flipN v n i < n := by unfold flipN; split <;> omega
theorem flip_flip {v n i : Nat} (_hv : v < n) (hi : i < n) : flipN v n (flipN v n i) = i := by
  unfold flipN
  by_cases h : i ≤ v
  · rw [if_pos h, if_pos (by omega)]; omega
  · rw [if_neg h, if_neg (by omega)]; omega
/-- Does a round take a place to its flip? -/
def turnN (s : Nat → Nat) (r a b : Nat) : Bool := bitN (blkN s r (max a b / 256)) (max a b)
theorem turn_comm (s : Nat → Nat) (r a b : Nat) : turnN s r a b = turnN s r b a := by unfold turnN; rw [Nat.max_comm]
/-- A round, of which the pivot is v. -/
def stepV (s : Nat → Nat) (n v r i : Nat) : Nat := if turnN s r i (flipN v n i) = true then flipN v n i else i
theorem stepV_lt {s : Nat → Nat} {n v r i : Nat} (hv : v < n) (hi : i < n) : stepV s n v r i < n := by
  unfold stepV; split
  · exact flip_lt hv hi
  · exact hi
theorem stepV_stepV {s : Nat → Nat} {n v r i : Nat} (hv : v < n) (hi : i < n) : stepV s n v r (stepV s n v r i) = i := by
  by_cases h : turnN s r i (flipN v n i) = true
  · have e : stepV s n v r i = flipN v n i := if_pos h
    rw [e]
    unfold stepV
    rw [flip_flip hv hi, turn_comm, if_pos h]
  · have e : stepV s n v r i = i := if_neg h
    rw [e, e]
/-- A round. -/
def stepN (s : Nat → Nat) (n r i : Nat) : Nat := stepV s n (pivN s n r) r i
theorem step_lt {s : Nat → Nat} {n r i : Nat} (hi : i < n) : stepN s n r i < n := stepV_lt (pivN_lt s r (by omega)) hi
theorem step_step {s : Nat → Nat} {n r i : Nat} (hi : i < n) : stepN s n r (stepN s n r i) = i := stepV_stepV (pivN_lt s r (by omega)) hi
/-- k rounds, in the order that ρ says. -/
def walkN (s : Nat → Nat) (n : Nat) (ρ : Nat → Nat) : Nat → Nat → Nat
  | 0, i => i
  | k + 1, i => stepN s n (ρ k) (walkN s n ρ k i)
theorem walk_lt {s : Nat → Nat} {n : Nat} {ρ : Nat → Nat} {i : Nat} (hi : i < n) : ∀ k, walkN s n ρ k i < n := by
  intro k
  induction k with
  | zero => exact hi
  | succ k ih => exact step_lt ih
def fwd : Nat → Nat := fun k => k
def bwd : Nat → Nat := fun k => 5 - k
/-- Where a place is taken, and which one is taken there. -/
def placeN (s : Nat → Nat) (n i : Nat) : Nat := walkN s n fwd 6 i
def backN (s : Nat → Nat) (n i : Nat) : Nat := walkN s n bwd 6 i
theorem place_lt {s : Nat → Nat} {n i : Nat} (hi : i < n) : placeN s n i < n := walk_lt hi 6
theorem back_lt {s : Nat → Nat} {n i : Nat} (hi : i < n) : backN s n i < n := walk_lt hi 6
theorem back_place {s : Nat → Nat} {n i : Nat} (hi : i < n) : backN s n (placeN s n i) = i := by
  have h := fun k => walk_lt (s := s) (ρ := fwd) hi k
  have e : ∀ k j, k < 6 → walkN s n bwd (5 - k) j = walkN s n fwd (k + 1) i → walkN s n bwd (6 - k) j = walkN s n fwd k i := fun k j hk e => by
    rw [show 6 - k = (5 - k) + 1 by omega, walkN, e, show bwd (5 - k) = k by unfold bwd; omega]
    exact step_step (h k)
  have e5 := e 5 (placeN s n i) (by omega) rfl
  have e4 := e 4 (placeN s n i) (by omega) e5
  have e3 := e 3 (placeN s n i) (by omega) e4
  have e2 := e 2 (placeN s n i) (by omega) e3
  have e1 := e 1 (placeN s n i) (by omega) e2
  exact e 0 (placeN s n i) (by omega) e1
theorem place_back {s : Nat → Nat} {n i : Nat} (hi : i < n) : placeN s n (backN s n i) = i := by
  have h := fun k => walk_lt (s := s) (ρ := bwd) hi k
  have e : ∀ k j, k < 6 → walkN s n fwd (5 - k) j = walkN s n bwd (k + 1) i → walkN s n fwd (6 - k) j = walkN s n bwd k i := fun k j hk e => by
    rw [show 6 - k = (5 - k) + 1 by omega, walkN, e, show fwd (5 - k) = bwd k by unfold bwd fwd; rfl]
    exact step_step (h k)
  have e5 := e 5 (backN s n i) (by omega) rfl
  have e4 := e 4 (backN s n i) (by omega) e5
  have e3 := e 3 (backN s n i) (by omega) e4
  have e2 := e 2 (backN s n i) (by omega) e3
  have e1 := e 1 (backN s n i) (by omega) e2
  exact e 0 (backN s n i) (by omega) e1
theorem place_inj {s : Nat → Nat} {n i j : Nat} (hi : i < n) (hj : j < n) (h : placeN s n i = placeN s n j) : i = j := by
  rw [← back_place (s := s) hi, h, back_place hj]
end Go.Proofs.YtjhgndnpihnidaaDoor
