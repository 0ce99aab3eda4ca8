/- A part of what the proofs stand on: ShaBlock, ShaRef, Bytes, App. -/
import Derived.Test.YtlcpflaofggmeaaDoorGTre6
import Derived.Test.YtlcpflaofggmeaaDoorGTre5
/- The walk of the reference's block. (Printed by a program of mine.) -/
namespace Go.Proofs.YtlcpflaofggmeaaDoor
set_option maxRecDepth 40000
open Go.RowKit

/-- Eight words as a value. -/
abbrev agg8 (H : Nat → W32) : Value := .agg #[wv (H 0), wv (H 1), wv (H 2), wv (H 3), wv (H 4), wv (H 5), wv (H 6), wv (H 7)]

theorem below_setCell {w : World} {b : Nat} {p : Addr} {u : Value} (h : b < p.block) : Below (b + 1) w (w.setCell p u) := (Below.refl _ _).setCell h _
theorem row_replicate (w : World) (t : TypeId) (n : Nat) (v : Value) : (w.alloc (.cells (Array.replicate n v) t)).rowIs w.heap.size t (Array.replicate n v).size (fun _ => v) :=
  World.rowIs_alloc w _ _ (fun _ => v) (fun i hi => by simp at hi; simp [hi])

set_option maxRecDepth 100000 in
set_option maxHeartbeats 8000000 in
theorem block_any (n c B : Nat) (A : Option Addr) (H : Nat → W32) (m : Nat → Nat) (w : World)
    (hm : ∀ i, m i < 256) (hb : Rd w B A n (fun i => .int .u8 ((m i : Nat) : Int))) (hB : B ≤ w.heap.size) (hn : 64 ≤ n) (hn2 : n ≤ 140737488355328)
    (hK0 : ∀ i, i < 64 → w.cell? ⟨3, i, none⟩ = some (wv (kw i))) :
    Calls Tryd.prog 49 #[agg8 H, .slice A n c] w fun e w' => e = .returned (agg8 (comp H m)) ∧ Below w.heap.size w w' := by
  have hG0 : 3 < w.heap.size := by have h := hK0 0 (by omega); have := cell_lt0 h; exact this
  have HK := Lib.hid hK0
  clear hK0
  go_enter Tryd.func49, Tryd.ntmps49
  go_wp2_with fail
  go_loopw [6] (fun i wr => ∃ k : Nat, k ≤ 16 ∧ i = .int .i64 k ∧ wr.rowIs (w.heap.size + 2) 79 64 (fun j => if j < k then wv (word m j) else wv 0) ∧ wr.rowIs w.heap.size 73 8 (fun j => wv (H j)) ∧ (∃ z, wr.rowIs (w.heap.size + 1) 73 8 z) ∧ Below w.heap.size w wr) (fun i _ => 16 - (intOf i).toNat)
  case atStart =>
    have r1 := World.rowIs_alloc w #[wv (H 0), wv (H 1), wv (H 2), wv (H 3), wv (H 4), wv (H 5), wv (H 6), wv (H 7)] 73 (fun j => wv (H j)) (fun i hi => by
      have hi : i < 8 := hi
      match i, hi with
      | 0, _ | 1, _ | 2, _ | 3, _ | 4, _ | 5, _ | 6, _ | 7, _ => rfl
      | n + 8, h => omega)
    have r2 := row_replicate (w.alloc (.cells #[wv (H 0), wv (H 1), wv (H 2), wv (H 3), wv (H 4), wv (H 5), wv (H 6), wv (H 7)] 73)) 73 8 (wv 0)
    have r3 := row_replicate ((w.alloc (.cells #[wv (H 0), wv (H 1), wv (H 2), wv (H 3), wv (H 4), wv (H 5), wv (H 6), wv (H 7)] 73)).alloc (.cells (Array.replicate 8 (wv 0)) 73)) 79 64 (wv 0)
    have e1 : (w.alloc (.cells #[wv (H 0), wv (H 1), wv (H 2), wv (H 3), wv (H 4), wv (H 5), wv (H 6), wv (H 7)] 73)).heap.size = w.heap.size + 1 := alloc_sz _ _
    have e2 : ((w.alloc (.cells #[wv (H 0), wv (H 1), wv (H 2), wv (H 3), wv (H 4), wv (H 5), wv (H 6), wv (H 7)] 73)).alloc (.cells (Array.replicate 8 (wv 0)) 73)).heap.size = w.heap.size + 2 := by rw [alloc_sz, e1]
    rw [e1] at r2
    rw [e2] at r3
    have B2 : Below (w.heap.size + 1) (w.alloc (.cells #[wv (H 0), wv (H 1), wv (H 2), wv (H 3), wv (H 4), wv (H 5), wv (H 6), wv (H 7)] 73)) _ := (Below.refl _ _).alloc (Nat.le_of_eq e1.symm) (.cells (Array.replicate 8 (wv 0)) 73)
    have B3 : Below (w.heap.size + 2) ((w.alloc (.cells #[wv (H 0), wv (H 1), wv (H 2), wv (H 3), wv (H 4), wv (H 5), wv (H 6), wv (H 7)] 73)).alloc (.cells (Array.replicate 8 (wv 0)) 73)) _ := (Below.refl _ _).alloc (Nat.le_of_eq e2.symm) (.cells (Array.replicate 64 (wv 0)) 79)
    have B1 : Below w.heap.size w _ := (Below.refl _ _).alloc (Nat.le_refl _) (.cells #[wv (H 0), wv (H 1), wv (H 2), wv (H 3), wv (H 4), wv (H 5), wv (H 6), wv (H 7)] 73)
    exact ⟨0, Nat.zero_le _, rfl, r3.congr (fun j _ => by rw [if_neg (by omega)]), row_below (row_below r1 B2 (by omega)) B3 (by omega), ⟨_, row_below r2 B3 (by omega)⟩, (B1.trans (B2.mono (by omega))).trans (B3.mono (by omega))⟩
  case round =>
    obtain ⟨k, hk, rfl, hW, hH, ⟨z, hz⟩, hbel⟩ := hrel
    by_cases hk16 : k < 16
    · have hr := hb.below (hbel.mono hB)
      obtain ⟨ad, hA, hbl, c0⟩ := hr.at_ (k := 4 * k) (by omega)
      subst hA
      have C0 := Lib.hid c0
      have C1 := Lib.hid (hr.cell_ (k := 4 * k + 1) (by omega))
      have C2 := Lib.hid (hr.cell_ (k := 4 * k + 2) (by omega))
      have C3 := Lib.hid (hr.cell_ (k := 4 * k + 3) (by omega))
      have hadB : ad.block < wr.heap.size := Nat.lt_of_lt_of_le hbl (Nat.le_trans hB hbel.size)
      have b0 := hm (4 * k)
      have b1 := hm (4 * k + 1)
      have b2 := hm (4 * k + 2)
      have b3 := hm (4 * k + 3)
      have HW := Lib.hid hW
      have HH := Lib.hid hH
      have Hz := Lib.hid hz
      have Hbel := Lib.hid hbel
      clear hW hbel hb hm hr c0 hH hz
      go_wp2_with fail
      refine wp_region_factsT (l := [_, _, _, _, _, _, _, _, _, _, _, _, _, _, _, _, _, _, _, _, _, _, _, _, _, _, _, _, _, _, _, _, _, _, _]) (B := wr.heap.size) (w0 := wr) [SF.is (.int .i64 ((k : Nat) : Int)), SF.is (.slice (some ad) n c), SF.is (.int .i64 ((k : Nat) : Int)), SF.is (.int .i64 ((4 * k : Nat) : Int)), SF.is (.pointer (some (ad.add (4 * k)))), SF.is (.int .u8 ((m (4 * k) : Nat) : Int)), SF.is (wv (BitVec.ofNat 32 (m (4 * k)))), SF.is (wv ((BitVec.ofNat 32 (m (4 * k))) <<< (24 : Nat))), SF.is (.slice (some ad) n c), SF.is (.int .i64 ((k : Nat) : Int)), SF.is (.int .i64 ((4 * k : Nat) : Int)), SF.is (.int .i64 (((4 * k) + (1) : Nat) : Int)), SF.is (.pointer (some (ad.add (4 * k + 1)))), SF.is (.int .u8 ((m (4 * k + 1) : Nat) : Int)), SF.is (wv (BitVec.ofNat 32 (m (4 * k + 1)))), SF.is (wv ((BitVec.ofNat 32 (m (4 * k + 1))) <<< (16 : Nat))), SF.is (wv (((BitVec.ofNat 32 (m (4 * k))) <<< (24 : Nat)) ||| ((BitVec.ofNat 32 (m (4 * k + 1))) <<< (16 : Nat)))), SF.is (.slice (some ad) n c), SF.is (.int .i64 ((k : Nat) : Int)), SF.is (.int .i64 ((4 * k : Nat) : Int)), SF.is (.int .i64 (((4 * k) + (2) : Nat) : Int)), SF.is (.pointer (some (ad.add (4 * k + 2)))), SF.is (.int .u8 ((m (4 * k + 2) : Nat) : Int)), SF.is (wv (BitVec.ofNat 32 (m (4 * k + 2)))), SF.is (wv ((BitVec.ofNat 32 (m (4 * k + 2))) <<< (8 : Nat))), SF.is (wv ((((BitVec.ofNat 32 (m (4 * k))) <<< (24 : Nat)) ||| ((BitVec.ofNat 32 (m (4 * k + 1))) <<< (16 : Nat))) ||| ((BitVec.ofNat 32 (m (4 * k + 2))) <<< (8 : Nat)))), SF.is (.slice (some ad) n c), SF.is (.int .i64 ((k : Nat) : Int)), SF.is (.int .i64 ((4 * k : Nat) : Int)), SF.is (.int .i64 (((4 * k) + (3) : Nat) : Int)), SF.is (.pointer (some (ad.add (4 * k + 3)))), SF.is (.int .u8 ((m (4 * k + 3) : Nat) : Int)), SF.is (wv (BitVec.ofNat 32 (m (4 * k + 3)))), SF.is (wv (((((BitVec.ofNat 32 (m (4 * k))) <<< (24 : Nat)) ||| ((BitVec.ofNat 32 (m (4 * k + 1))) <<< (16 : Nat))) ||| ((BitVec.ofNat 32 (m (4 * k + 2))) <<< (8 : Nat))) ||| (BitVec.ofNat 32 (m (4 * k + 3))))), SF.is (.pointer (some ⟨w.heap.size + 2, 0 + (k), none⟩))] (by kernel_rfl) (by kernel_rfl) rfl (Nat.le_refl _) (Below.refl _ _) ⟨?_, ?_, ?_, ?_, ?_, ?_, ?_, ?_, ?_, ?_, ?_, ?_, ?_, ?_, ?_, ?_, ?_, ?_, ?_, ?_, ?_, ?_, ?_, ?_, ?_, ?_, ?_, ?_, ?_, ?_, ?_, ?_, ?_, ?_, ?_, trivial⟩ ?_
      · exact (opOb_move _ rfl (.inl rfl) rfl)
      · exact (opOb_move _ rfl (.inl rfl) rfl)
      · exact (opOb_move _ rfl (.inl rfl) rfl)
      · exact opOb_nmul _ _ (by omega) rfl rfl (OpK.const) (OpK.tmp rfl)
      · exact opOb_idx rfl rfl (OpK.tmp rfl) (OpK.tmp rfl) (fun w => run_idx_slice w ad n c (4 * k) (by omega))
      · exact opOb_ld rfl rfl (OpK.tmp rfl) (fun w' hb => run_ld8 w' _ _ ((hb.cell (by rw [block_of_add]; exact hadB)).trans C0.out))
      · exact opOb_wide _ b0 Tryd.underlying5 Tryd.underlying69 rfl rfl (OpK.tmp rfl)
      · exact opOb_shl _ 24 (by omega) rfl rfl (OpK.tmp rfl)
      · exact (opOb_move _ rfl (.inl rfl) rfl)
      · exact (opOb_move _ rfl (.inl rfl) rfl)
      · exact opOb_nmul _ _ (by omega) rfl rfl (OpK.const) (OpK.tmp rfl)
      · exact opOb_nadd _ _ (by omega) rfl rfl (OpK.tmp rfl) (OpK.const)
      · exact opOb_idx rfl rfl (OpK.tmp rfl) (OpK.tmp rfl) (fun w => run_idx_slice w ad n c (4 * k + 1) (by omega))
      · exact opOb_ld rfl rfl (OpK.tmp rfl) (fun w' hb => run_ld8 w' _ _ ((hb.cell (by rw [block_of_add]; exact hadB)).trans C1.out))
      · exact opOb_wide _ b1 Tryd.underlying5 Tryd.underlying69 rfl rfl (OpK.tmp rfl)
      · exact opOb_shl _ 16 (by omega) rfl rfl (OpK.tmp rfl)
      · exact opOb_or _ _ rfl rfl (OpK.tmp rfl) (OpK.tmp rfl)
      · exact (opOb_move _ rfl (.inl rfl) rfl)
      · exact (opOb_move _ rfl (.inl rfl) rfl)
      · exact opOb_nmul _ _ (by omega) rfl rfl (OpK.const) (OpK.tmp rfl)
      · exact opOb_nadd _ _ (by omega) rfl rfl (OpK.tmp rfl) (OpK.const)
      · exact opOb_idx rfl rfl (OpK.tmp rfl) (OpK.tmp rfl) (fun w => run_idx_slice w ad n c (4 * k + 2) (by omega))
      · exact opOb_ld rfl rfl (OpK.tmp rfl) (fun w' hb => run_ld8 w' _ _ ((hb.cell (by rw [block_of_add]; exact hadB)).trans C2.out))
      · exact opOb_wide _ b2 Tryd.underlying5 Tryd.underlying69 rfl rfl (OpK.tmp rfl)
      · exact opOb_shl _ 8 (by omega) rfl rfl (OpK.tmp rfl)
      · exact opOb_or _ _ rfl rfl (OpK.tmp rfl) (OpK.tmp rfl)
      · exact (opOb_move _ rfl (.inl rfl) rfl)
      · exact (opOb_move _ rfl (.inl rfl) rfl)
      · exact opOb_nmul _ _ (by omega) rfl rfl (OpK.const) (OpK.tmp rfl)
      · exact opOb_nadd _ _ (by omega) rfl rfl (OpK.tmp rfl) (OpK.const)
      · exact opOb_idx rfl rfl (OpK.tmp rfl) (OpK.tmp rfl) (fun w => run_idx_slice w ad n c (4 * k + 3) (by omega))
      · exact opOb_ld rfl rfl (OpK.tmp rfl) (fun w' hb => run_ld8 w' _ _ ((hb.cell (by rw [block_of_add]; exact hadB)).trans C3.out))
      · exact opOb_wide _ b3 Tryd.underlying5 Tryd.underlying69 rfl rfl (OpK.tmp rfl)
      · exact opOb_or _ _ rfl rfl (OpK.tmp rfl) (OpK.tmp rfl)
      · exact opOb_idx rfl rfl (OpK.tmp rfl) (OpK.tmp rfl) (fun w => run_idx64 w _ _ (k) (by omega))
      · intro w' hb
        simp only [fin, SF.is, forall_eq]
        simp only [Act.put, List.setIfInBounds_toArray, List.set_cons_succ, List.set_cons_zero]
        have hW' := row_below HW.out hb HW.out.lt
        refine wp_store (v := wv (word m k)) rfl rfl rfl rfl (run_st32 w' _ _ _ (by rw [Nat.zero_add]; exact hW'.cell (i := k) (by omega)) (hW'.frozen _)) ?_
        go_wp2_with fail
        go_roundw
        case rel =>
          have hbel := Hbel.out.trans (hb.mono Hbel.out.size)
          refine ⟨k + 1, by omega, by go_num, (hW'.set k _).congr (fun j _ => ?_), row_below (row_below HH.out hb HH.out.lt) (below_setCell (show w.heap.size < w.heap.size + 2 by omega)) (Nat.lt_succ_self _), ⟨z, row_below (row_below Hz.out hb Hz.out.lt) (below_setCell (show w.heap.size + 1 < w.heap.size + 2 by omega)) (Nat.lt_succ_self _)⟩, hbel.setCell (show w.heap.size ≤ w.heap.size + 2 by omega) _⟩
          by_cases e : j = k
          · subst e; rw [if_pos rfl, if_pos (by omega)]
          · rw [if_neg e]
            by_cases e2 : j < k
            · rw [if_pos e2, if_pos (by omega)]
            · rw [if_neg e2, if_neg (by omega)]
        case measure => simp [intOf]; omega
    · obtain rfl : k = 16 := by omega
      have HW := Lib.hid (show wr.rowIs (w.heap.size + 2) 79 64 (fun j => if j < 16 then wv (Wt (word m) j) else wv 0) from hW.congr (fun j _ => by
        by_cases e : j < 16
        · rw [if_pos e, if_pos e, Wt_lo _ _ e]
        · rw [if_neg e, if_neg e]))
      have HH := Lib.hid hH
      have Hz := Lib.hid (show ∃ z, wr.rowIs (w.heap.size + 1) 73 8 z from ⟨z, hz⟩)
      have Hbel := Lib.hid hbel
      clear hW hbel hb hm hH hz
      go_wp2_with fail
      go_loopw [7] (fun i wr => ∃ j : Nat, j ≤ 48 ∧ i = .int .i64 ((j + 16 : Nat) : Int) ∧ wr.rowIs (w.heap.size + 2) 79 64 (fun i => if i < j + 16 then wv (Wt (word m) i) else wv 0) ∧ wr.rowIs w.heap.size 73 8 (fun j => wv (H j)) ∧ (∃ z, wr.rowIs (w.heap.size + 1) 73 8 z) ∧ Below w.heap.size w wr) (fun i _ => 64 - (intOf i).toNat)
      case atStart => exact ⟨0, by omega, rfl, HW.out, HH.out, Hz.out, Hbel.out⟩
      case round =>
        clear HW HH Hz Hbel
        obtain ⟨j, hj, rfl, hW, hH, ⟨z, hz⟩, hbel⟩ := hrel
        by_cases hj48 : j < 48
        · have hlow : ∀ e, e < j + 16 → wr.cell? ⟨w.heap.size + 2, 0 + e, none⟩ = some (wv (Wt (word m) e)) := fun e he => by
            rw [Nat.zero_add, hW.cell (by omega), if_pos he]
          have c1 : wr.cell? ⟨w.heap.size + 2, j + 1, none⟩ = some (wv (Wt (word m) (j + 1))) := by have := hlow (j + 1) (by omega); rwa [Nat.zero_add] at this
          have c14 : wr.cell? ⟨w.heap.size + 2, j + 14, none⟩ = some (wv (Wt (word m) (j + 14))) := by have := hlow (j + 14) (by omega); rwa [Nat.zero_add] at this
          have hWB := hW.lt
          have HW := Lib.hid hW
          have HH := Lib.hid hH
          have Hz := Lib.hid hz
          have Hbel := Lib.hid hbel
          have Hlow := Lib.hid hlow
          clear hW hbel hH hz hlow
          go_wp2_with fail
          have hlow := Hlow.out
          refine wp_region_factsT (l := [_, _, _, _, _, _, _, _, _, _, _, _, _, _, _, _, _, _, _, _, _, _, _, _, _, _, _, _, _]) (B := wr.heap.size) (w0 := wr) [SF.is (.int .i64 ((j + 16 : Nat) : Int)), SF.is (wv (Wt (word m) (j + 14))), SF.is (wv (rotr (Wt (word m) (j + 14)) 17)), SF.is (wv (Wt (word m) (j + 14))), SF.is (wv (rotr (Wt (word m) (j + 14)) 19)), SF.is (wv ((rotr (Wt (word m) (j + 14)) 17) ^^^ (rotr (Wt (word m) (j + 14)) 19))), SF.is (wv (Wt (word m) (j + 14))), SF.is (wv ((Wt (word m) (j + 14)) >>> (10 : Nat))), SF.is (wv (((rotr (Wt (word m) (j + 14)) 17) ^^^ (rotr (Wt (word m) (j + 14)) 19)) ^^^ ((Wt (word m) (j + 14)) >>> (10 : Nat)))), SF.is (.int .i64 ((j + 16 : Nat) : Int)), SF.is (.int .i64 ((j + 9 : Nat) : Int)), SF.is (.pointer (some ⟨w.heap.size + 2, 0 + (j + 9), none⟩)), SF.is (wv (Wt (word m) (j + 9))), SF.is (wv ((((rotr (Wt (word m) (j + 14)) 17) ^^^ (rotr (Wt (word m) (j + 14)) 19)) ^^^ ((Wt (word m) (j + 14)) >>> (10 : Nat))) + (Wt (word m) (j + 9)))), SF.is (wv (Wt (word m) (j + 1))), SF.is (wv (rotr (Wt (word m) (j + 1)) 7)), SF.is (wv (Wt (word m) (j + 1))), SF.is (wv (rotr (Wt (word m) (j + 1)) 18)), SF.is (wv ((rotr (Wt (word m) (j + 1)) 7) ^^^ (rotr (Wt (word m) (j + 1)) 18))), SF.is (wv (Wt (word m) (j + 1))), SF.is (wv ((Wt (word m) (j + 1)) >>> (3 : Nat))), SF.is (wv (((rotr (Wt (word m) (j + 1)) 7) ^^^ (rotr (Wt (word m) (j + 1)) 18)) ^^^ ((Wt (word m) (j + 1)) >>> (3 : Nat)))), SF.is (wv (((((rotr (Wt (word m) (j + 14)) 17) ^^^ (rotr (Wt (word m) (j + 14)) 19)) ^^^ ((Wt (word m) (j + 14)) >>> (10 : Nat))) + (Wt (word m) (j + 9))) + (((rotr (Wt (word m) (j + 1)) 7) ^^^ (rotr (Wt (word m) (j + 1)) 18)) ^^^ ((Wt (word m) (j + 1)) >>> (3 : Nat))))), SF.is (.int .i64 ((j + 16 : Nat) : Int)), SF.is (.int .i64 ((j : Nat) : Int)), SF.is (.pointer (some ⟨w.heap.size + 2, 0 + (j), none⟩)), SF.is (wv (Wt (word m) (j))), SF.is (wv ((((((rotr (Wt (word m) (j + 14)) 17) ^^^ (rotr (Wt (word m) (j + 14)) 19)) ^^^ ((Wt (word m) (j + 14)) >>> (10 : Nat))) + (Wt (word m) (j + 9))) + (((rotr (Wt (word m) (j + 1)) 7) ^^^ (rotr (Wt (word m) (j + 1)) 18)) ^^^ ((Wt (word m) (j + 1)) >>> (3 : Nat)))) + (Wt (word m) (j)))), SF.is (.pointer (some ⟨w.heap.size + 2, 0 + (j + 16), none⟩))] (by kernel_rfl) (by kernel_rfl) rfl (Nat.le_refl _) (Below.refl _ _) ⟨?_, ?_, ?_, ?_, ?_, ?_, ?_, ?_, ?_, ?_, ?_, ?_, ?_, ?_, ?_, ?_, ?_, ?_, ?_, ?_, ?_, ?_, ?_, ?_, ?_, ?_, ?_, ?_, ?_, trivial⟩ ?_
          · exact (opOb_move _ rfl (.inl rfl) rfl)
          · exact (opOb_move _ rfl (.inl rfl) rfl)
          · refine (opOb_call rfl fun a w' hb hf => ?_)
            have h73 : a.tmps[73]?.getD undef = wv (Wt (word m) (j + 14)) := hf 73 List.mem_cons_self
            refine ⟨50, #[wv (Wt (word m) (j + 14)), .int .u64 17], ?_, (rot_17 _ _).mono fun e w'' ⟨he, hw⟩ => ⟨_, he, rfl, hw ▸ Below.refl _ _⟩⟩
            go_light
            simp [go_sem, h73]
          · exact (opOb_move _ rfl (.inl rfl) rfl)
          · refine (opOb_call rfl fun a w' hb hf => ?_)
            have h75 : a.tmps[75]?.getD undef = wv (Wt (word m) (j + 14)) := hf 75 List.mem_cons_self
            refine ⟨50, #[wv (Wt (word m) (j + 14)), .int .u64 19], ?_, (rot_19 _ _).mono fun e w'' ⟨he, hw⟩ => ⟨_, he, rfl, hw ▸ Below.refl _ _⟩⟩
            go_light
            simp [go_sem, h75]
          · exact opOb_xor _ _ rfl rfl (OpK.tmp rfl) (OpK.tmp rfl)
          · exact (opOb_move _ rfl (.inl rfl) rfl)
          · exact opOb_shr _ 10 (by omega) rfl rfl (OpK.tmp rfl)
          · exact opOb_xor _ _ rfl rfl (OpK.tmp rfl) (OpK.tmp rfl)
          · exact (opOb_move _ rfl (.inl rfl) rfl)
          · exact opOb_nsub (j + 16) 7 (j + 9) (by omega) (by omega) rfl rfl (OpK.tmp rfl) OpK.const
          · exact opOb_idx rfl rfl (OpK.tmp rfl) (OpK.tmp rfl) (fun w => run_idx64 w _ _ (j + 9) (by omega))
          · exact opOb_ld rfl rfl (OpK.tmp rfl) (fun w' hb => run_ld32 w' _ _ ((hb.cell (p := ⟨w.heap.size + 2, 0 + (j + 9), none⟩) hWB).trans (hlow (j + 9) (by omega))))
          · exact opOb_add _ _ rfl rfl (OpK.tmp rfl) (OpK.tmp rfl)
          · exact (opOb_move _ rfl (.inl rfl) rfl)
          · refine (opOb_call rfl fun a w' hb hf => ?_)
            have h86 : a.tmps[86]?.getD undef = wv (Wt (word m) (j + 1)) := hf 86 List.mem_cons_self
            refine ⟨50, #[wv (Wt (word m) (j + 1)), .int .u64 7], ?_, (rot_7 _ _).mono fun e w'' ⟨he, hw⟩ => ⟨_, he, rfl, hw ▸ Below.refl _ _⟩⟩
            go_light
            simp [go_sem, h86]
          · exact (opOb_move _ rfl (.inl rfl) rfl)
          · refine (opOb_call rfl fun a w' hb hf => ?_)
            have h88 : a.tmps[88]?.getD undef = wv (Wt (word m) (j + 1)) := hf 88 List.mem_cons_self
            refine ⟨50, #[wv (Wt (word m) (j + 1)), .int .u64 18], ?_, (rot_18 _ _).mono fun e w'' ⟨he, hw⟩ => ⟨_, he, rfl, hw ▸ Below.refl _ _⟩⟩
            go_light
            simp [go_sem, h88]
          · exact opOb_xor _ _ rfl rfl (OpK.tmp rfl) (OpK.tmp rfl)
          · exact (opOb_move _ rfl (.inl rfl) rfl)
          · exact opOb_shr _ 3 (by omega) rfl rfl (OpK.tmp rfl)
          · exact opOb_xor _ _ rfl rfl (OpK.tmp rfl) (OpK.tmp rfl)
          · exact opOb_add _ _ rfl rfl (OpK.tmp rfl) (OpK.tmp rfl)
          · exact (opOb_move _ rfl (.inl rfl) rfl)
          · exact opOb_nsub (j + 16) 16 (j) (by omega) (by omega) rfl rfl (OpK.tmp rfl) OpK.const
          · exact opOb_idx rfl rfl (OpK.tmp rfl) (OpK.tmp rfl) (fun w => run_idx64 w _ _ (j) (by omega))
          · exact opOb_ld rfl rfl (OpK.tmp rfl) (fun w' hb => run_ld32 w' _ _ ((hb.cell (p := ⟨w.heap.size + 2, 0 + (j), none⟩) hWB).trans (hlow (j) (by omega))))
          · exact opOb_add _ _ rfl rfl (OpK.tmp rfl) (OpK.tmp rfl)
          · exact opOb_idx rfl rfl (OpK.tmp rfl) (OpK.tmp rfl) (fun w => run_idx64 w _ _ (j + 16) (by omega))
          · intro w' hb
            simp only [fin, SF.is, forall_eq]
            simp only [Act.put, List.setIfInBounds_toArray, List.set_cons_succ, List.set_cons_zero]
            clear hlow
            have hW' := row_below HW.out hb HW.out.lt
            have hst : (((((rotr (Wt (word m) (j + 14)) 17) ^^^ (rotr (Wt (word m) (j + 14)) 19)) ^^^ ((Wt (word m) (j + 14)) >>> (10 : Nat))) + (Wt (word m) (j + 9))) + (((rotr (Wt (word m) (j + 1)) 7) ^^^ (rotr (Wt (word m) (j + 1)) 18)) ^^^ ((Wt (word m) (j + 1)) >>> (3 : Nat)))) + (Wt (word m) (j)) = Wt (word m) (j + 16) := by
              rw [Wt_step]
              unfold s0 s1
              ac_rfl
            refine wp_store (v := wv (Wt (word m) (j + 16))) rfl rfl rfl (congrArg wv hst) (run_st32 w' _ _ _ (by rw [Nat.zero_add]; exact hW'.cell (i := j + 16) (by omega)) (hW'.frozen _)) ?_
            clear hst
            go_wp2_with fail
            go_roundw
            case rel =>
              have hbel := Hbel.out.trans (hb.mono Hbel.out.size)
              refine ⟨j + 1, by omega, by go_num, (hW'.set (j + 16) _).congr (fun i _ => ?_), row_below (row_below HH.out hb HH.out.lt) (below_setCell (show w.heap.size < w.heap.size + 2 by omega)) (Nat.lt_succ_self _), ⟨z, row_below (row_below Hz.out hb Hz.out.lt) (below_setCell (show w.heap.size + 1 < w.heap.size + 2 by omega)) (Nat.lt_succ_self _)⟩, hbel.setCell (show w.heap.size ≤ w.heap.size + 2 by omega) _⟩
              by_cases e : i = j + 16
              · subst e; rw [if_pos rfl, if_pos (by omega)]
              · rw [if_neg e]
                by_cases e2 : i < j + 16
                · rw [if_pos e2, if_pos (by omega)]
                · rw [if_neg e2, if_neg (by omega)]
            case measure => simp [intOf]; omega
        · obtain rfl : j = 48 := by omega
          have hHB := hH.lt
          have hH8 : ∀ i, i < 8 → wr.cell? ⟨w.heap.size, 0 + i, none⟩ = some (wv (H i)) := fun i hi => by rw [Nat.zero_add]; exact hH.cell hi
          have HW := Lib.hid hW
          have HH := Lib.hid hH
          have Hz := Lib.hid hz
          have Hbel := Lib.hid hbel
          have HH8 := Lib.hid hH8
          clear hW hbel hH hz hH8
          go_wp2_with fail
          have hH := HH8.out
          refine wp_region_facts (B := wr.heap.size) (w0 := wr) [SF.is (.pointer (some ⟨w.heap.size, 0 + (0), none⟩)), SF.is (wv (H 0)), SF.is (.pointer (some ⟨w.heap.size, 0 + (1), none⟩)), SF.is (wv (H 1)), SF.is (.pointer (some ⟨w.heap.size, 0 + (2), none⟩)), SF.is (wv (H 2)), SF.is (.pointer (some ⟨w.heap.size, 0 + (3), none⟩)), SF.is (wv (H 3)), SF.is (.pointer (some ⟨w.heap.size, 0 + (4), none⟩)), SF.is (wv (H 4)), SF.is (.pointer (some ⟨w.heap.size, 0 + (5), none⟩)), SF.is (wv (H 5)), SF.is (.pointer (some ⟨w.heap.size, 0 + (6), none⟩)), SF.is (wv (H 6)), SF.is (.pointer (some ⟨w.heap.size, 0 + (7), none⟩)), SF.is (wv (H 7)), SF.is (wv (H 0)), SF.is (wv (H 1)), SF.is (wv (H 2)), SF.is (wv (H 3)), SF.is (wv (H 4)), SF.is (wv (H 5)), SF.is (wv (H 6)), SF.is (wv (H 7))] (by kernel_rfl) (by kernel_rfl) rfl (Nat.le_refl _) (Below.refl _ _) ⟨?_, ?_, ?_, ?_, ?_, ?_, ?_, ?_, ?_, ?_, ?_, ?_, ?_, ?_, ?_, ?_, ?_, ?_, ?_, ?_, ?_, ?_, ?_, ?_, trivial⟩ ?_
          · exact opOb_idx rfl rfl (OpK.tmp rfl) (OpK.const) (fun w => run_idx8a w _ _ (0) (by omega))
          · exact opOb_ld rfl rfl (OpK.tmp rfl) (fun w' hb => run_ld32 w' _ _ ((hb.cell (p := ⟨w.heap.size, 0 + 0, none⟩) hHB).trans (hH 0 (by omega))))
          · exact opOb_idx rfl rfl (OpK.tmp rfl) (OpK.const) (fun w => run_idx8a w _ _ (1) (by omega))
          · exact opOb_ld rfl rfl (OpK.tmp rfl) (fun w' hb => run_ld32 w' _ _ ((hb.cell (p := ⟨w.heap.size, 0 + 1, none⟩) hHB).trans (hH 1 (by omega))))
          · exact opOb_idx rfl rfl (OpK.tmp rfl) (OpK.const) (fun w => run_idx8a w _ _ (2) (by omega))
          · exact opOb_ld rfl rfl (OpK.tmp rfl) (fun w' hb => run_ld32 w' _ _ ((hb.cell (p := ⟨w.heap.size, 0 + 2, none⟩) hHB).trans (hH 2 (by omega))))
          · exact opOb_idx rfl rfl (OpK.tmp rfl) (OpK.const) (fun w => run_idx8a w _ _ (3) (by omega))
          · exact opOb_ld rfl rfl (OpK.tmp rfl) (fun w' hb => run_ld32 w' _ _ ((hb.cell (p := ⟨w.heap.size, 0 + 3, none⟩) hHB).trans (hH 3 (by omega))))
          · exact opOb_idx rfl rfl (OpK.tmp rfl) (OpK.const) (fun w => run_idx8a w _ _ (4) (by omega))
          · exact opOb_ld rfl rfl (OpK.tmp rfl) (fun w' hb => run_ld32 w' _ _ ((hb.cell (p := ⟨w.heap.size, 0 + 4, none⟩) hHB).trans (hH 4 (by omega))))
          · exact opOb_idx rfl rfl (OpK.tmp rfl) (OpK.const) (fun w => run_idx8a w _ _ (5) (by omega))
          · exact opOb_ld rfl rfl (OpK.tmp rfl) (fun w' hb => run_ld32 w' _ _ ((hb.cell (p := ⟨w.heap.size, 0 + 5, none⟩) hHB).trans (hH 5 (by omega))))
          · exact opOb_idx rfl rfl (OpK.tmp rfl) (OpK.const) (fun w => run_idx8a w _ _ (6) (by omega))
          · exact opOb_ld rfl rfl (OpK.tmp rfl) (fun w' hb => run_ld32 w' _ _ ((hb.cell (p := ⟨w.heap.size, 0 + 6, none⟩) hHB).trans (hH 6 (by omega))))
          · exact opOb_idx rfl rfl (OpK.tmp rfl) (OpK.const) (fun w => run_idx8a w _ _ (7) (by omega))
          · exact opOb_ld rfl rfl (OpK.tmp rfl) (fun w' hb => run_ld32 w' _ _ ((hb.cell (p := ⟨w.heap.size, 0 + 7, none⟩) hHB).trans (hH 7 (by omega))))
          · exact (opOb_move _ rfl (.inr rfl) rfl)
          · exact (opOb_move _ rfl (.inr rfl) rfl)
          · exact (opOb_move _ rfl (.inr rfl) rfl)
          · exact (opOb_move _ rfl (.inr rfl) rfl)
          · exact (opOb_move _ rfl (.inr rfl) rfl)
          · exact (opOb_move _ rfl (.inr rfl) rfl)
          · exact (opOb_move _ rfl (.inr rfl) rfl)
          · exact (opOb_move _ rfl (.inr rfl) rfl)
          · intro w' hb
            simp only [fin, SF.is, forall_eq]
            simp only [Act.put, List.setIfInBounds_toArray, List.set_cons_succ, List.set_cons_zero]
            clear hH
            have b12 := hb
            have HW2 := Lib.hid (row_below HW.out b12 HW.out.lt)
            have HH2 := Lib.hid (row_below HH.out b12 HH.out.lt)
            have Hz2 := Lib.hid (row_below Hz.out b12 Hz.out.lt)
            have Hbel2 := Lib.hid (Hbel.out.trans (b12.mono Hbel.out.size))
            clear hb b12 HW HH Hz Hbel HH8
            go_wp2_with fail
            go_loopw [10, 11, 12, 13, 14, 15, 16, 17, 18] (fun v10 v11 v12 v13 v14 v15 v16 v17 v18 wr => ∃ (t : Nat) (s : S8), t ≤ 64 ∧ s = rounds (word m) (S8.of H) t ∧ v10 = wv s.a ∧ v11 = wv s.b ∧ v12 = wv s.c ∧ v13 = wv s.d ∧ v14 = wv s.e ∧ v15 = wv s.f ∧ v16 = wv s.g ∧ v17 = wv s.h ∧ v18 = .int .i64 (t : Int) ∧ wr.rowIs (w.heap.size + 2) 79 64 (fun i => if i < 48 + 16 then wv (Wt (word m) i) else wv 0) ∧ wr.rowIs w.heap.size 73 8 (fun j => wv (H j)) ∧ (∃ z, wr.rowIs (w.heap.size + 1) 73 8 z) ∧ Below w.heap.size w wr) (fun _ _ _ _ _ _ _ _ i _ => 64 - (intOf i).toNat)
            case atStart => exact ⟨0, S8.of H, by omega, rfl, rfl, rfl, rfl, rfl, rfl, rfl, rfl, rfl, rfl, HW2.out, HH2.out, ⟨_, Hz2.out⟩, Hbel2.out⟩
            case round =>
              clear HW2 HH2 Hz2 Hbel2
              obtain ⟨t, s, ht, hs, rfl, rfl, rfl, rfl, rfl, rfl, rfl, rfl, rfl, hW, hH, ⟨z, hz⟩, hbel⟩ := hrel
              by_cases ht64 : t < 64
              · have hWB := hW.lt
                have hGB : 3 < wr.heap.size := Nat.lt_of_lt_of_le hG0 hbel.size
                have hKt : wr.cell? ⟨3, 0 + t, none⟩ = some (wv (kw t)) := by rw [Nat.zero_add]; exact (hbel.cell (p := ⟨3, t, none⟩) hG0).trans (HK.out t ht64)
                have hWt : wr.cell? ⟨w.heap.size + 2, 0 + t, none⟩ = some (wv (Wt (word m) t)) := by rw [Nat.zero_add, hW.cell ht64, if_pos (by omega)]
                have HW := Lib.hid hW
                have HH := Lib.hid hH
                have Hz := Lib.hid hz
                have Hbel := Lib.hid hbel
                have HS := Lib.hid hs
                have HKt := Lib.hid hKt
                have HWt := Lib.hid hWt
                clear hW hbel hH hz hs hKt hWt
                go_wp2_with fail
                have hKt := HKt.out
                have hWt := HWt.out
                refine wp_region_facts (B := wr.heap.size) (w0 := wr) [SF.is (wv (s.h)), SF.is (wv (s.e)), SF.is (wv (rotr (s.e) 6)), SF.is (wv (s.e)), SF.is (wv (rotr (s.e) 11)), SF.is (wv ((rotr (s.e) 6) ^^^ (rotr (s.e) 11))), SF.is (wv (s.e)), SF.is (wv (rotr (s.e) 25)), SF.is (wv (((rotr (s.e) 6) ^^^ (rotr (s.e) 11)) ^^^ (rotr (s.e) 25))), SF.is (wv ((s.h) + (((rotr (s.e) 6) ^^^ (rotr (s.e) 11)) ^^^ (rotr (s.e) 25)))), SF.is (wv (s.e)), SF.is (wv (s.f)), SF.is (wv ((s.e) &&& (s.f))), SF.is (wv (s.e)), SF.is (wv (~~~s.e)), SF.is (wv (s.g)), SF.is (wv ((~~~s.e) &&& (s.g))), SF.is (wv (((s.e) &&& (s.f)) ^^^ ((~~~s.e) &&& (s.g)))), SF.is (wv (((s.h) + (((rotr (s.e) 6) ^^^ (rotr (s.e) 11)) ^^^ (rotr (s.e) 25))) + (((s.e) &&& (s.f)) ^^^ ((~~~s.e) &&& (s.g))))), SF.is (.int .i64 ((t : Nat) : Int)), SF.is (.pointer (some ⟨3, 0 + (t), none⟩)), SF.is (wv (kw t)), SF.is (wv ((((s.h) + (((rotr (s.e) 6) ^^^ (rotr (s.e) 11)) ^^^ (rotr (s.e) 25))) + (((s.e) &&& (s.f)) ^^^ ((~~~s.e) &&& (s.g)))) + (kw t))), SF.is (.int .i64 ((t : Nat) : Int)), SF.is (.pointer (some ⟨w.heap.size + 2, 0 + (t), none⟩)), SF.is (wv (Wt (word m) t)), SF.is (wv (((((s.h) + (((rotr (s.e) 6) ^^^ (rotr (s.e) 11)) ^^^ (rotr (s.e) 25))) + (((s.e) &&& (s.f)) ^^^ ((~~~s.e) &&& (s.g)))) + (kw t)) + (Wt (word m) t))), SF.is (wv (((((s.h) + (((rotr (s.e) 6) ^^^ (rotr (s.e) 11)) ^^^ (rotr (s.e) 25))) + (((s.e) &&& (s.f)) ^^^ ((~~~s.e) &&& (s.g)))) + (kw t)) + (Wt (word m) t)))] (by kernel_rfl) (by kernel_rfl) rfl (Nat.le_refl _) (Below.refl _ _) ⟨?_, ?_, ?_, ?_, ?_, ?_, ?_, ?_, ?_, ?_, ?_, ?_, ?_, ?_, ?_, ?_, ?_, ?_, ?_, ?_, ?_, ?_, ?_, ?_, ?_, ?_, ?_, ?_, trivial⟩ ?_
                · exact (opOb_move _ rfl (.inl rfl) rfl)
                · exact (opOb_move _ rfl (.inl rfl) rfl)
                · refine (opOb_call rfl fun a w' hb hf => ?_)
                  have h122 : a.tmps[122]?.getD undef = wv (s.e) := hf 122 List.mem_cons_self
                  refine ⟨50, #[wv (s.e), .int .u64 6], ?_, (rot_6 _ _).mono fun e w'' ⟨he, hw⟩ => ⟨_, he, rfl, hw ▸ Below.refl _ _⟩⟩
                  go_light
                  simp [go_sem, h122]
                · exact (opOb_move _ rfl (.inl rfl) rfl)
                · refine (opOb_call rfl fun a w' hb hf => ?_)
                  have h124 : a.tmps[124]?.getD undef = wv (s.e) := hf 124 List.mem_cons_self
                  refine ⟨50, #[wv (s.e), .int .u64 11], ?_, (rot_11 _ _).mono fun e w'' ⟨he, hw⟩ => ⟨_, he, rfl, hw ▸ Below.refl _ _⟩⟩
                  go_light
                  simp [go_sem, h124]
                · exact opOb_xor _ _ rfl rfl (OpK.tmp rfl) (OpK.tmp rfl)
                · exact (opOb_move _ rfl (.inl rfl) rfl)
                · refine (opOb_call rfl fun a w' hb hf => ?_)
                  have h127 : a.tmps[127]?.getD undef = wv (s.e) := hf 127 List.mem_cons_self
                  refine ⟨50, #[wv (s.e), .int .u64 25], ?_, (rot_25 _ _).mono fun e w'' ⟨he, hw⟩ => ⟨_, he, rfl, hw ▸ Below.refl _ _⟩⟩
                  go_light
                  simp [go_sem, h127]
                · exact opOb_xor _ _ rfl rfl (OpK.tmp rfl) (OpK.tmp rfl)
                · exact opOb_add _ _ rfl rfl (OpK.tmp rfl) (OpK.tmp rfl)
                · exact (opOb_move _ rfl (.inl rfl) rfl)
                · exact (opOb_move _ rfl (.inl rfl) rfl)
                · exact opOb_and _ _ rfl rfl (OpK.tmp rfl) (OpK.tmp rfl)
                · exact (opOb_move _ rfl (.inl rfl) rfl)
                · exact opOb_not _ rfl rfl (OpK.tmp rfl)
                · exact (opOb_move _ rfl (.inl rfl) rfl)
                · exact opOb_and _ _ rfl rfl (OpK.tmp rfl) (OpK.tmp rfl)
                · exact opOb_xor _ _ rfl rfl (OpK.tmp rfl) (OpK.tmp rfl)
                · exact opOb_add _ _ rfl rfl (OpK.tmp rfl) (OpK.tmp rfl)
                · exact (opOb_move _ rfl (.inl rfl) rfl)
                · exact opOb_idx rfl rfl (OpK.glob) (OpK.tmp rfl) (fun w => run_idx64 w _ _ (t) (by omega))
                · exact opOb_ld rfl rfl (OpK.tmp rfl) (fun w' hb => run_ld32 w' _ _ ((hb.cell (p := ⟨3, 0 + t, none⟩) hGB).trans hKt))
                · exact opOb_add _ _ rfl rfl (OpK.tmp rfl) (OpK.tmp rfl)
                · exact (opOb_move _ rfl (.inl rfl) rfl)
                · exact opOb_idx rfl rfl (OpK.tmp rfl) (OpK.tmp rfl) (fun w => run_idx64 w _ _ (t) (by omega))
                · exact opOb_ld rfl rfl (OpK.tmp rfl) (fun w' hb => run_ld32 w' _ _ ((hb.cell (p := ⟨w.heap.size + 2, 0 + t, none⟩) hWB).trans hWt))
                · exact opOb_add _ _ rfl rfl (OpK.tmp rfl) (OpK.tmp rfl)
                · exact (opOb_move _ rfl (.inr rfl) rfl)
                · intro w' hb
                  simp only [fin, SF.is, forall_eq]
                  simp only [Act.put, List.setIfInBounds_toArray, List.set_cons_succ, List.set_cons_zero]
                  clear hKt hWt
                  have b16 := hb
                  clear hb
                  obtain ⟨T1, hT1⟩ : ∃ x, x = ((((s.h) + (((rotr (s.e) 6) ^^^ (rotr (s.e) 11)) ^^^ (rotr (s.e) 25))) + (((s.e) &&& (s.f)) ^^^ ((~~~s.e) &&& (s.g)))) + (kw t)) + (Wt (word m) t) := ⟨_, rfl⟩
                  rw [← hT1]
                  have HT1 := Lib.hid hT1
                  clear hT1
                  go_wp2_with (first
              | (go_at_call_of 50 (Value.int IntKind.u64 2); refine (rot_2 _ _).mono ?_; rintro e w9 ⟨rfl, rfl⟩)
              | (go_at_call_of 50 (Value.int IntKind.u64 13); refine (rot_13 _ _).mono ?_; rintro e w9 ⟨rfl, rfl⟩)
              | (go_at_call_of 50 (Value.int IntKind.u64 22); refine (rot_22 _ _).mono ?_; rintro e w9 ⟨rfl, rfl⟩))
                  simp only [u32_xor, u32_and, u32_add]
                  refine ⟨?_, ?measure⟩
                  iterate 20 apply Exists.intro
                  (repeat apply Exists.intro)
                  refine ⟨?rel, rfl⟩
                  case rel =>
                    have E1 : T1 = one (kw t) (Wt (word m) t) s := by rw [HT1.out, ch_ref]; rfl
                    exact ⟨t + 1, (step (kw t) (Wt (word m) t) s), by omega, by rw [HS.out]; rfl, congrArg wv (by rw [E1, maj_ref]; rfl), rfl, rfl, rfl, congrArg wv (by rw [E1]; rfl), rfl, rfl, rfl, by go_num, row_below HW.out b16 HW.out.lt, row_below HH.out b16 HH.out.lt, ⟨z, row_below Hz.out b16 Hz.out.lt⟩, Hbel.out.trans (b16.mono Hbel.out.size)⟩
                  case measure => simp [intOf]; omega
              · obtain rfl : t = 64 := by omega
                have HW := Lib.hid hW
                have HH := Lib.hid hH
                have Hz := Lib.hid hz
                have Hbel := Lib.hid hbel
                have HS := Lib.hid hs
                have c0 := hH.cell (i := 0) (by omega)
                have c1 := hH.cell (i := 1) (by omega)
                have c2 := hH.cell (i := 2) (by omega)
                have c3 := hH.cell (i := 3) (by omega)
                have c4 := hH.cell (i := 4) (by omega)
                have c5 := hH.cell (i := 5) (by omega)
                have c6 := hH.cell (i := 6) (by omega)
                have c7 := hH.cell (i := 7) (by omega)
                obtain ⟨cz, hcz, hsz, _⟩ := hz
                have Hcz := Lib.hid hcz
                have Hsz := Lib.hid hsz
                clear hW hbel hH hs hcz hsz
                go_wp2_with (refine wpList_store_row rfl 73 (.tmp 4) (.tmp 212) rfl (w.heap.size + 1) _ rfl rfl 73 cz Hcz.out ?c1 ?c2 ?c3 ?_)
                case c1 => kernel_rfl
                case c2 => exact Hsz.out
                case c3 => simp [Value.oneCell']
                simp only [u32_add]
                refine ret_row rfl (w.heap.size + 1) 73 _ (0, 0) _ rfl (heap_setRow Hcz.out _) Tryd.underlying73 rfl (by kernel_rfl) rfl ⟨?_, Hbel.out.trans (below_setRow _ (Nat.le_succ _))⟩
                have hgo : ∀ i, i < 8 → H i + s.get i = comp H m i := fun i hi => by unfold comp; rw [HS.out]
                have g0 : H 0 + s.a = comp H m 0 := hgo 0 (by omega)
                have g1 : H 1 + s.b = comp H m 1 := hgo 1 (by omega)
                have g2 : H 2 + s.c = comp H m 2 := hgo 2 (by omega)
                have g3 : H 3 + s.d = comp H m 3 := hgo 3 (by omega)
                have g4 : H 4 + s.e = comp H m 4 := hgo 4 (by omega)
                have g5 : H 5 + s.f = comp H m 5 := hgo 5 (by omega)
                have g6 : H 6 + s.g = comp H m 6 := hgo 6 (by omega)
                have g7 : H 7 + s.h = comp H m 7 := hgo 7 (by omega)
                rw [g0, g1, g2, g3, g4, g5, g6, g7]
end Go.Proofs.YtlcpflaofggmeaaDoor
/- The walks of the reference: Padded, Sum, Two. -/
namespace Go.Proofs.YtlcpflaofggmeaaDoor
set_option maxRecDepth 40000
open Go.RowKit

theorem u8_info : (Tryd.prog.info? 5).map (fun i => (i.zero, i.size, i.bytes)) = some (some (.int .u8 0), 1, 1) := by kernel_rfl
theorem pad_first (n : Nat) (x : Nat → Nat) : ∀ i, i < n → catF 0 (u8v x) (u8v x) i = u8v (padF n x) i := fun i hi => by
  simp only [catF, u8v, padF]; rw [if_neg (by omega), Nat.sub_zero, if_pos hi]
theorem pad_one (n : Nat) (x : Nat → Nat) : ∀ i, i < n + 1 → catF n (u8v (padF n x)) (fun _ => .int .u8 128) i = u8v (padF n x) i := fun i hi => by
  simp only [catF, u8v]
  by_cases h : i < n
  · rw [if_pos h]
  · rw [if_neg h]; unfold padF; rw [if_neg h, if_pos (by omega)]; rfl
theorem pad_zero (n k : Nat) (x : Nat → Nat) (h1 : n < k) (h2 : k < 64 * nb n - 8) : ∀ i, i < k + 1 → catF k (u8v (padF n x)) (fun _ => .int .u8 0) i = u8v (padF n x) i := fun i hi => by
  simp only [catF, u8v]
  by_cases h : i < k
  · rw [if_pos h]
  · rw [if_neg h]; unfold padF; rw [if_neg (by omega), if_neg (by omega), if_pos (by omega)]; rfl
theorem pad_len (n p k : Nat) (x : Nat → Nat) (v : Value) (hk : k = 64 * nb n - (p + 1)) (hp : p < 8) (hv : v = .int .u8 ((8 * n % 18446744073709551616 / 2 ^ (8 * p) % 256 : Nat) : Int)) : ∀ i, i < k + 1 → catF k (u8v (padF n x)) (fun _ => v) i = u8v (padF n x) i := fun i hi => by
  have hnb : n < 64 * nb n - 8 := by unfold nb; omega
  simp only [catF, u8v]
  by_cases h : i < k
  · rw [if_pos h]
  · rw [if_neg h, hv]; unfold padF; rw [if_neg (by omega), if_neg (by omega), if_neg (by omega), show 64 * nb n - 1 - i = p by omega]

theorem len_val (n p : Nat) (hn : n ≤ 140737488355200) : Value.int .u8 ((n : Int) * 8 / 2 ^ (8 * p) % 256) = .int .u8 ((8 * n % 18446744073709551616 / 2 ^ (8 * p) % 256 : Nat) : Int) := by
  rw [Nat.mod_eq_of_lt (show 8 * n < 18446744073709551616 by omega), show (n : Int) * 8 = ((8 * n : Nat) : Int) by omega]
  generalize 8 * n = b
  simp

set_option maxHeartbeats 2000000 in
theorem padded_any (n c : Nat) (A : Option Addr) (x : Nat → Nat) (w : World) (hb : Rd w w.heap.size A n (u8v x)) (hn : n ≤ 140737488355200) :
    Calls Tryd.prog 48 #[.slice A n c] w fun e w' => ∃ A' c', e = .returned (.slice A' (64 * nb n) c') ∧ Own w' w.heap.size 5 A' (64 * nb n) c' (u8v (padF n x)) ∧ Below w.heap.size w w' := by
  have HB := Lib.hid hb
  have hnb : n < 64 * nb n - 8 ∧ 64 * nb n ≤ n + 72 ∧ 8 ≤ 64 * nb n := by unfold nb; omega
  have HF1 := Lib.hid (pad_first n x)
  have HF2 := Lib.hid (pad_one n x)
  clear hb
  go_enter Tryd.func48, Tryd.ntmps48
  go_wp2_with (first
    | (at_builtin; refine wpList_app _ (.tmp 6) (.tmp 7) 72 w.heap.size u8_info Tryd.underlying72 rfl rfl rfl n (u8v (padF n x)) rfl rfl (Own.new0 _ _ _ (u8v x) (Nat.le_refl _)) (HB.out.alloc (Nat.le_refl _) _) (fun _ _ => rfl) (Nat.zero_add _).symm HF1.out ⟨by omega, by omega⟩ (by simp) ?_; intro A1 c1 w1 o1 g1 b1; have O1 := Lib.hid (And.intro o1 (And.intro g1 b1)); clear o1 g1 b1)
    | (at_builtin; refine wpList_app _ (.tmp 8) (.tmp 9) 72 w.heap.size u8_info Tryd.underlying72 rfl rfl rfl (n + 1) (u8v (padF n x)) rfl rfl (O1.out.1.alloc _) (Rd.one _ _ _) (fun _ _ => rfl) rfl HF2.out ⟨by omega, by omega⟩ (by have := O1.out.2.1.size; simp at this; simp; omega) ?_; intro A2 c2 w2 o2 g2 b2; have O2 := Lib.hid (And.intro o2 (And.intro g2 b2)); clear o2 g2 b2))
  have hb1 : Below w.heap.size w w1 := below_app ((Below.refl _ w).alloc (Nat.le_refl _) _) O1.out.2.1 (by simp) (by rintro ad h; injection h with h; subst h; exact Nat.le_refl _)
  have hb2 : Below w.heap.size w w2 := below_app (hb1.alloc hb1.size _) O2.out.2.1 (by have := hb1.size; simp; omega) (fun ad h => (O1.out.1.base_le ad h).1)
  have HO := Lib.hid O2.out.1
  have HB2 := Lib.hid hb2
  clear hb1 hb2 O1 O2
  go_loopw [3] (fun s wr => ∃ (k : Nat) (Ak : Option Addr) (ck : Nat), s = .slice Ak k ck ∧ n < k ∧ k ≤ 64 * nb n - 8 ∧ Own wr w.heap.size 5 Ak k ck (u8v (padF n x)) ∧ Below w.heap.size w wr) (fun s _ => match s with | .slice _ k _ => 64 * nb n - 8 - k | _ => 0)
  case atStart => exact ⟨n + 1, A2, c2, rfl, by omega, by omega, HO.out, HB2.out⟩
  case round =>
    clear HO HB2
    obtain ⟨k, Ak, ck, rfl, hk1, hk2, hown, hbel⟩ := hrel
    have HO := Lib.hid hown
    have HBl := Lib.hid hbel
    clear hown hbel
    by_cases hk : k < 64 * nb n - 8
    · have hne : ((k : Int) % 64 != 56) = true := by rw [bne_iff_ne]; unfold nb at hk; omega
      have HF3 := Lib.hid (pad_zero n k x hk1 hk)
      go_wp2_with (at_builtin; refine wpList_app _ (.tmp 15) (.tmp 16) 72 w.heap.size u8_info Tryd.underlying72 rfl rfl rfl (k + 1) (u8v (padF n x)) rfl rfl (HO.out.alloc _) (Rd.one _ _ _) (fun _ _ => rfl) rfl HF3.out ⟨by omega, by omega⟩ (by have := HBl.out.size; simp; omega) ?_; intro A3 c3 w3 o3 g3 b3; have O3 := Lib.hid (And.intro o3 (And.intro g3 b3)); clear o3 g3 b3)
      have hb3 : Below w.heap.size w w3 := below_app (HBl.out.alloc HBl.out.size _) O3.out.2.1 (by have := HBl.out.size; simp; omega) (fun ad h => (HO.out.base_le ad h).1)
      have HB3 := Lib.hid hb3
      clear hb3
      go_roundw
      case rel => exact ⟨k + 1, A3, c3, rfl, by omega, by omega, O3.out.1, HB3.out⟩
      case measure => show 64 * nb n - 8 - (k + 1) < 64 * nb n - 8 - k; omega
    · have hne : ((k : Int) % 64 != 56) = false := by rw [bne_eq_false_iff_eq]; omega
      go_wp2_with fail
      go_loopw [3, 5] (fun s t wr => ∃ (p : Nat) (e : Int) (Ak : Option Addr) (ck : Nat), s = .slice Ak (64 * nb n - p) ck ∧ t = .int .i64 e ∧ e = (p : Int) - 1 ∧ p ≤ 8 ∧ Own wr w.heap.size 5 Ak (64 * nb n - p) ck (u8v (padF n x)) ∧ Below w.heap.size w wr) (fun _ t _ => (intOf t + 1).toNat)
      case atStart =>
        obtain rfl : k = 64 * nb n - 8 := by omega
        exact ⟨8, 7, Ak, ck, rfl, rfl, rfl, by omega, HO.out, HBl.out⟩
      case round =>
        clear HO HBl hne hk
        obtain ⟨p, e, Ap, cp, rfl, rfl, he, hp8, hown, hbel⟩ := hrel
        have HO := Lib.hid hown
        have HBl := Lib.hid hbel
        clear hown hbel
        rcases p with _ | p
        · obtain rfl : e = -1 := by omega
          clear he
          go_wp2_with fail
          go_ret
          exact ⟨Ap, cp, rfl, HO.out, HBl.out⟩
        · obtain rfl : e = (p : Int) := by omega
          clear he
          have HF4 := Lib.hid (pad_len n p (64 * nb n - (p + 1)) x (.int .u8 ((n : Int) * 8 / 2 ^ (8 * p) % 256)) rfl (by omega) (len_val n p (by omega)))
          go_wp2_with (at_builtin; refine wpList_app _ (.tmp 26) (.tmp 33) 72 w.heap.size u8_info Tryd.underlying72 rfl rfl rfl (64 * nb n - (p + 1) + 1) (u8v (padF n x)) rfl rfl (HO.out.alloc _) (Rd.one _ _ _) (fun _ _ => rfl) rfl HF4.out ⟨by omega, by omega⟩ (by have := HBl.out.size; simp; omega) ?_; intro A3 c3 w3 o3 g3 b3; have O3 := Lib.hid (And.intro o3 (And.intro g3 b3)); clear o3 g3 b3)
          have hb3 : Below w.heap.size w w3 := below_app (HBl.out.alloc HBl.out.size _) O3.out.2.1 (by have := HBl.out.size; simp; omega) (fun ad h => (HO.out.base_le ad h).1)
          have HB3 := Lib.hid hb3
          clear hb3
          go_roundw
          case rel => exact ⟨p, (p : Int) - 1, A3, c3, by rw [show 64 * nb n - (p + 1) + 1 = 64 * nb n - p by omega], rfl, rfl, by omega, by have := O3.out.1; rwa [show 64 * nb n - (p + 1) + 1 = 64 * nb n - p by omega] at this, HB3.out⟩
          case measure => simp only [intOf]; omega
end Go.Proofs.YtlcpflaofggmeaaDoor
/- The eight bytes of a number, by the program and by the reference. -/
namespace Go.Proofs.YtlcpflaofggmeaaDoor
set_option maxRecDepth 40000
open Go.RowKit
/-- The first n of v, and zeros. -/
def padN (n : Nat) (v : Nat → Nat) : Nat → Nat := fun i => if i < n then v i else 0
theorem padN_lt {n : Nat} {v : Nat → Nat} (hv : ∀ i, v i < 256) (i : Nat) : padN n v i < 256 := by unfold padN; split; exact hv i; omega
end Go.Proofs.YtlcpflaofggmeaaDoor
/- append onto a new empty slice, in a region that draws its order. -/
namespace Go.Proofs.YtlcpflaofggmeaaDoor
set_option maxRecDepth 40000
open Go.RowKit

/-- A row of the call's own, as a slice. -/
def SF.own (base : Nat) (e : TypeId) (n : Nat) (f : Nat → Value) : SF := ⟨fun v w => ∃ A c, v = .slice A n c ∧ Own w base e A n c f, fun _ _ _ ⟨A, c, e1, h⟩ hb => ⟨A, c, e1, h.below hb fun ad ha => (h.base_le ad ha).2⟩⟩
/-- A new slice without cells. -/
def SF.own0 (base : Nat) (e : TypeId) : SF := ⟨fun v w => ∃ b, v = .slice (some ⟨b, 0, none⟩) 0 0 ∧ Own w base e (some ⟨b, 0, none⟩) 0 0 (fun _ => undef), fun _ _ _ ⟨b, e1, h⟩ hb => ⟨b, e1, h.below hb fun ad ha => (h.base_le ad ha).2⟩⟩

section
variable {P : Program} (w : World)
theorem app0_eq {t ty e : TypeId} {i : TypeInfo} {z : Value} (ht : P.underlying t = some (.slice e)) (hi : P.info? e = some i) (hz : i.zero = some z) (hsize : i.size = 1)
    (b a : Addr) (m cm B : Nat) (g : Nat → Value) (hr : Rd w B (some a) m g) (hm : 0 < m) (hbytes : m ≤ 9223372036854775807 ∧ m * i.bytes ≤ 140737488355328) :
    (Builtin.append_ #[t, t] ty #[.slice (some b) 0 0, .slice (some a) m cm]).run P w = (Builtin.append_ #[t, t] ty #[.slice none 0 0, .slice (some a) m cm]).run P w := by
  have hnews : ∀ j v, ((List.range m).map g)[j]? = some v → w.cell? (a.add j) = some v := fun j v hj => by
    have hjl : j < m := by
      rcases Nat.lt_or_ge j m with h | h
      · exact h
      · simp [h] at hj
    rw [hr.cell_ hjl]
    simp [hjl] at hj
    exact congrArg some hj
  have h1 := run_append_nil (P := P) w t ty e i z ht hi hz a m cm ((List.range m).map g) (by simp [hsize]) hnews hm (by omega) (by omega)
  have h2 := run_append_grow (P := P) w t ty e i z ht hi hz b 0 0 [] (by simp) (fun j v hj => by simp at hj) a m cm ((List.range m).map g) (by simp [hsize]) hnews (by omega) (by omega) (growslice_fits (by omega) (by rw [Nat.zero_add]; exact hbytes.2))
  rw [h1, h2]
  simp
/-- append onto a slice without room: only new memory is made. -/
theorem run_app0 (base : Nat) {t ty e : TypeId} {i : TypeInfo} {z : Value} {bytes : Nat} (ht : P.underlying t = some (.slice e)) (hi : P.info? e = some i) (hz : i.zero = some z)
    (hsize : i.size = 1) (hby : i.bytes = bytes) (hzs : z.cells.size = 1) {b : Addr} {f g : Nat → Value} (hown : Own w base e (some b) 0 0 f)
    {C : Option Addr} {m cm B : Nat} (hr : Rd w B C m g) (h1 : ∀ i, i < m → (g i).oneCell' = true) (hbytes : m ≤ 9223372036854775807 ∧ m * bytes ≤ 140737488355328) (hbase : base ≤ w.heap.size) :
    ∃ A' c' w', (Builtin.append_ #[t, t] ty #[.slice (some b) 0 0, .slice C m cm]).run P w = .ok (.slice A' m c') w' ∧ Own w' base e A' m c' g ∧ Below w.heap.size w w' := by
  by_cases hm : m = 0
  · subst hm
    obtain ⟨A', c', w', h2, h3, h4, h5⟩ := run_app (P := P) w base t ty e i z bytes ht hi hz hsize hby hzs (cm := cm) hown hr h1 (by omega) hbase
    have hrun : (Builtin.append_ #[t, t] ty #[.slice (some b) 0 0, .slice C 0 cm]).run P w = .ok (.slice (some b) 0 0) w := by
      rcases C with _ | ad <;> simp [Builtin.append_, run_underlying ht, sizeOf, typeInfo, hi, Builtin.lenOf, Builtin.firstCells, storeCells, loadCells, loadCellsFrom]
    exact ⟨_, _, _, hrun, hown.congr (fun i hi => absurd hi (by omega)), Below.refl _ _⟩
  · obtain ⟨ad, rfl, _⟩ := hr (by omega)
    obtain ⟨A', c', w', h2, h3, h4, _⟩ := run_app (P := P) w base t ty e i z bytes ht hi hz hsize hby hzs (cm := cm) (Own.nil w base e g) hr h1 (by rw [Nat.zero_add]; exact hbytes) hbase
    refine ⟨A', c', w', ?_, ?_, ⟨h4.os, h4.tape, h4.output, h4.size, fun k hk => h4.block k hk (by simp)⟩⟩
    · rw [app0_eq w ht hi hz hsize b ad m cm B g hr (by omega) (by rw [hby]; exact hbytes), h2, Nat.zero_add]
    · rw [Nat.zero_add] at h3
      exact h3.congr (fun i _ => by simp [catF])
end

section
variable {P : Program} {ops : Array Oper} {B : Nat} {w0 : World} {o : Oper} {lk : Tmp → SF}
/-- []T{}. -/
theorem opOb_bs0 {t e : TypeId} (hg : o.guard = none) (hop : o.op = .buildSlice t 0 #[]) (hr : ∀ w : World, (Instr.buildSlice t 0 #[]).run P w = .ok (.slice (some ⟨w.heap.size, 0, none⟩) 0 0) (w.alloc (.cells #[] e))) (base : Nat) (hb : base ≤ w0.heap.size) : opOb P ops B w0 o (SF.own0 base e) lk :=
  opOb_of hg fun a w hbel hf => by
    unfold Oper.wp execOp
    rw [hop]
    simp only [List.map_toArray, List.map_nil, Sem.run_bind, hr w, Result.andThen_ok, Sem.run_pure]
    exact ⟨_, rfl, ⟨w.heap.size, rfl, Own.new0 w base e _ (Nat.le_trans hb hbel.size)⟩, (Below.refl _ _).alloc (Nat.le_refl _) _⟩
/-- append([]T{}, x...). -/
theorem opOb_app0 {s x : Tmp} {t : TypeId} (base : Nat) {e : TypeId} {z : Value} {bytes : Nat} (hinfo : (P.info? e).map (fun i => (i.zero, i.size, i.bytes)) = some (some z, 1, bytes)) (ht : P.underlying t = some (.slice e)) (hzs : z.cells.size = 1)
    (hg : o.guard = none) (hop : o.op = .call { callee := .builtin .append, args := #[.tmp s, .tmp x], argTypes := #[t, t] }) (hs : lk s = SF.own0 base e)
    {C : Option Addr} {m cm Bx : Nat} {g : Nat → Value} (hx : lk x = SF.is (.slice C m cm)) (hr : ∀ w, Below B w0 w → Rd w Bx C m g) (h1 : ∀ i, i < m → (g i).oneCell' = true) (hbytes : m ≤ 9223372036854775807 ∧ m * bytes ≤ 140737488355328) (hbase : base ≤ w0.heap.size) :
    opOb P ops B w0 o (SF.own base e m g) lk :=
  opOb_of hg fun a w hbel hf => by
    obtain ⟨i, hi, hz, hsize, hby⟩ := info_parts hinfo
    have h2 := hf s (by rw [hop]; simp [Op.operands, Call.operands])
    have h3 := hf x (by rw [hop]; simp [Op.operands, Call.operands])
    rw [hs] at h2
    rw [hx] at h3
    obtain ⟨b, h4, hown⟩ := h2
    have e1 : a.eval (.tmp s) = .slice (some ⟨b, 0, none⟩) 0 0 := (getD_eq _ _).trans h4
    have e2 : a.eval (.tmp x) = .slice C m cm := (getD_eq _ _).trans h3
    obtain ⟨A', c', w', hrun, h5, h6⟩ := run_app0 (P := P) w base (ty := o.type) ht hi hz hsize hby hzs (cm := cm) hown (hr w hbel) h1 hbytes (Nat.le_trans hbase hbel.size)
    unfold Oper.wp execOp
    simp only [hop, resolve, invoke, builtin, Sem.run_bind, Sem.run_pure, Result.andThen_ok, List.map_toArray, List.map_cons, List.map_nil, e1, e2]
    rw [hrun]
    exact ⟨_, rfl, ⟨A', c', rfl, h5⟩, h6⟩
end
end Go.Proofs.YtlcpflaofggmeaaDoor
