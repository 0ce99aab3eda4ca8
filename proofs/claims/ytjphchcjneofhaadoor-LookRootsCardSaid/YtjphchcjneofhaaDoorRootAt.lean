/- word.Sub, and the root at a slot, by the program and by the reference. -/
import Derived.Test.YtjphchcjneofhaaDoorLookLeak
import Derived.Test.YtjphchcjneofhaaDoorStep
import Derived.Test.YtjphchcjneofhaaDoorShaRef
import Derived.Shelf.Spec.BitsCarry
namespace Go.Proofs.YtjphchcjneofhaaDoor
open Go.RowKit
theorem sub64_run (x y : Nat) (w : World) : (callFunc 29 #[.int .u64 (x : Int), .int .u64 (y : Int), .int .u64 0]).run Tryd.prog w = .ok (.value (.tuple #[.int .u64 (((x + 18446744073709551616 - y) % 18446744073709551616 : Nat) : Int), .int .u64 ((if x < y then 1 else 0 : Nat) : Int)])) w := by
  rw [run_callFunc_extern Tryd.func29 (by kernel_rfl) (by kernel_rfl) (by kernel_rfl) (e := sub64Entry) (by kernel_rfl)]
  have h := run_sub64 (P := Tryd.prog) x y 0 (by omega) w
  simp only [Nat.add_zero, Nat.sub_zero] at h
  have h' : (sub64Entry #[.int .u64 (x : Int), .int .u64 (y : Int), .int .u64 0]).run Tryd.prog w = _ := h
  rw [h']
  rfl
theorem sub64_ge (x y : Nat) (h : y ≤ x) (hx : x < 18446744073709551616) (w : World) : (callFunc 29 #[.int .u64 (x : Int), .int .u64 (y : Int), .int .u64 0]).run Tryd.prog w = .ok (.value (.tuple #[.int .u64 ((x - y : Nat) : Int), .int .u64 0])) w := by
  rw [sub64_run, if_neg (by omega), show (x + 18446744073709551616 - y) % 18446744073709551616 = x - y by omega]; rfl
theorem sub64_lt (x y : Nat) (h : x < y) (w : World) : (callFunc 29 #[.int .u64 (x : Int), .int .u64 (y : Int), .int .u64 0]).run Tryd.prog w = .ok (.value (.tuple #[.int .u64 (((x + 18446744073709551616 - y) % 18446744073709551616 : Nat) : Int), .int .u64 1])) w := by
  rw [sub64_run, if_pos h]; rfl
theorem sub_ge (x y : Nat) (h : y ≤ x) (hx : x < 18446744073709551616) (w : World) : Calls Tryd.prog 17 #[.int .u64 (x : Int), .int .u64 (y : Int)] w fun r w' => r = .returned (.tuple #[.int .u64 ((x - y : Nat) : Int), .int .i64 0]) ∧ w = w' := by
  have H := Lib.hid (sub64_ge x y h hx)
  go_enter Tryd.func17, Tryd.ntmps17
  go_wp2_with (simp only [H.out])
  go_ret2
  exact ⟨rfl, rfl⟩
theorem sub_lt (x y : Nat) (h : x < y) (w : World) : Calls Tryd.prog 17 #[.int .u64 (x : Int), .int .u64 (y : Int)] w fun r w' => r = .returned (.tuple #[.int .u64 0, .int .i64 2]) ∧ w = w' := by
  have H := Lib.hid (sub64_lt x y h)
  go_enter Tryd.func17, Tryd.ntmps17
  go_wp2_with (simp only [H.out])
  go_ret2
  exact ⟨rfl, rfl⟩
/-- Is there a root at that slot? -/
def atB (s t : Nat) : Bool := decide (t < s ∧ s - t ≤ 8)
/-- What RootAt answers. -/
def atV (F : Nat → Value) (s t : Nat) : Value := if atB s t then .agg (arr 32 fun q => F (141 + t % 8 * 32 + q)) else .agg (arr 32 (u8v fun _ => 0))
def atE (s t : Nat) : Int := if atB s t then 0 else 1
theorem one_root {F : Nat → Value} (hF : Sc F 49) {i q : Nat} (hi : i < 8) (hq : q < 32) : (F (141 + i * 32 + q)).oneCell' = true := by
  have h : ∀ i, i < 8 → ∀ q, q < 32 → leafAt Tryd.prog 8 49 (141 + i * 32 + q) = some 5 := by decide +kernel
  rw [(hF.u8 _ (h i hi q hq)).1]; rfl
set_option maxHeartbeats 1000000 in
theorem rootAt_look (F : Nat → Value) (hF : Sc F 49) (s t : Nat) (hs : F 33 = .int .u64 (s : Int)) (hs2 : s < 18446744073709551616) (ht : t < 18446744073709551616) (w : World) :
    Calls Tryd.prog 6 #[.agg (arr 1957 F), .int .u64 (t : Int)] w fun r w' => r = .returned (.tuple #[atV F s t, .int .i64 (atE s t)]) ∧ Below w.heap.size w w' := by
  have H33 := Lib.hid hs
  have HSc := Lib.hid hF
  have hi8 : t % 8 < 8 := by omega
  obtain ⟨G, hG⟩ : ∃ G : Nat → Value, ∀ q, G q = F (141 + t % 8 * 32 + q) := ⟨_, fun _ => rfl⟩
  have HG := Lib.hid hG
  have HV := Lib.hid (show atV F s t = if atB s t then .agg (arr 32 G) else .agg (arr 32 (u8v fun _ => 0)) by rw [show G = _ from funext hG]; rfl)
  clear hs hF hG
  by_cases hle : t ≤ s
  · by_cases h0 : s - t = 0
    · skip
      have HA := Lib.hid (show atB s t = false by unfold atB; exact decide_eq_false (by omega))
      obtain ⟨d, hd⟩ : ∃ d, d = s - t := ⟨_, rfl⟩
      rw [← hd] at h0
      have hz : ((d : Int) == 0) = true := by simp; omega
      have HD := Lib.hid hd
      clear hd h0
      go_enter Tryd.func6, Tryd.ntmps6
      go_wp2_with (first
        | (refine wpList_box rfl _ _ rfl 1957 F rfl ?_; intro w1 hr1 hb1; have HB0 := Lib.hid (((HS.nil w).below hb1).add hr1 (Nat.le_refl _) (by simp)); have hsz : w.heap.size ≤ w1.heap.size := hb1.size; clear hr1 hb1)
        | (refine wpList_allocH rfl 24 rfl HB0.out (Array.replicate 32 (.int .u8 0)) (by kernel_rfl) 32 (u8v fun _ => 0) (by rfl) (zero_at 32 (.int .u8 0)) ?_; intro w2 hs2'; have h33 := (hs2'.cell 1 33 rfl (by omega)).trans (congrArg some H33.out); have HS2 := Lib.hid hs2'; clear hs2')
        | (go_at_call 17; refine (sub_ge s t hle hs2 _).mono ?_; rintro r w3 ⟨rfl, hw3⟩; subst hw3; rw [← HD.out])
        | (refine wpList_store_arr rfl 24 (.tmp 4) (.tmp 25) rfl (HS2.out.row 0 rfl) (Array.replicate 32 (.int .u8 0)) rfl rfl (by rfl) (by kernel_rfl) (fun i hi => ⟨_, zero_at 32 (.int .u8 0) i hi, rfl⟩) ?_))
      refine ret_rowTmp rfl (HS2.out.setRow 0 rfl (Array.replicate 32 (.int .u8 0)) (by rfl) _ (zero_at 32 (.int .u8 0)) |>.row 0 rfl) _ _ rfl rfl Tryd.underlying24 rfl (by kernel_rfl) rfl ⟨?_, (HS2.out.setRow 0 rfl (Array.replicate 32 (.int .u8 0)) (by rfl) _ (zero_at 32 (.int .u8 0))).out (by simp; omega)⟩
      rw [HV.out]; unfold atE; rw [HA.out]; rfl
    · by_cases h8 : s - t ≤ 8
      · skip
        have HA := Lib.hid (show atB s t = true by unfold atB; exact decide_eq_true (by omega))
        obtain ⟨d, hd⟩ : ∃ d, d = s - t := ⟨_, rfl⟩
        rw [← hd] at h0 h8
        have hz : ((d : Int) == 0) = false := by simp; omega
        have hg : decide ((8 : Int) < (d : Int)) = false := by simp; omega
        have HD := Lib.hid hd
        clear hd h0 h8
        go_enter Tryd.func6, Tryd.ntmps6
        go_wp2_with (first
          | (refine wpList_box rfl _ _ rfl 1957 F rfl ?_; intro w1 hr1 hb1; have HB0 := Lib.hid (((HS.nil w).below hb1).add hr1 (Nat.le_refl _) (by simp)); have hsz : w.heap.size ≤ w1.heap.size := hb1.size; clear hr1 hb1)
          | (refine wpList_allocH rfl 24 rfl HB0.out (Array.replicate 32 (.int .u8 0)) (by kernel_rfl) 32 (u8v fun _ => 0) (by rfl) (zero_at 32 (.int .u8 0)) ?_; intro w2 hs2'; have h33 := (hs2'.cell 1 33 rfl (by omega)).trans (congrArg some H33.out); have HS2 := Lib.hid hs2'; clear hs2')
          | (go_at_call 17; refine (sub_ge s t hle hs2 _).mono ?_; rintro r w3 ⟨rfl, hw3⟩; subst hw3; rw [← HD.out])
          | (refine wpList_load_rd rfl 24 _ rfl 32 _ Tryd.underlying24 rfl (by kernel_rfl) ⟨w.heap.size, 141 + t % 8 * 32, none⟩ rfl G (fun q hq => by rw [add_litO, HG.out]; exact HS2.out.cell 1 (141 + t % 8 * 32 + q) rfl (by omega)) ?_)
          | (refine wpList_store_arr rfl 24 (.tmp 4) (.tmp 30) rfl (HS2.out.row 0 rfl) (arr 32 G) rfl rfl (size_arr _ _) (by kernel_rfl) (fun q hq => ⟨_, arr_at 32 G q hq, by rw [HG.out]; exact one_root HSc.out hi8 hq⟩) ?_))
        refine ret_rowTmp rfl (HS2.out.setRow 0 rfl (arr 32 G) (size_arr _ _) _ (fun q hq => arr_at _ _ q hq) |>.row 0 rfl) _ _ rfl rfl Tryd.underlying24 rfl (by kernel_rfl) rfl ⟨?_, (HS2.out.setRow 0 rfl (arr 32 G) (size_arr _ _) _ (fun q hq => arr_at _ _ q hq)).out (by simp; omega)⟩
        rw [HV.out]; unfold atE; rw [HA.out]; rfl
      · skip
        have HA := Lib.hid (show atB s t = false by unfold atB; exact decide_eq_false (by omega))
        obtain ⟨d, hd⟩ : ∃ d, d = s - t := ⟨_, rfl⟩
        rw [← hd] at h0 h8
        have hz : ((d : Int) == 0) = false := by simp; omega
        have hg : decide ((8 : Int) < (d : Int)) = true := by simp; omega
        have HD := Lib.hid hd
        clear hd h0 h8
        go_enter Tryd.func6, Tryd.ntmps6
        go_wp2_with (first
          | (refine wpList_box rfl _ _ rfl 1957 F rfl ?_; intro w1 hr1 hb1; have HB0 := Lib.hid (((HS.nil w).below hb1).add hr1 (Nat.le_refl _) (by simp)); have hsz : w.heap.size ≤ w1.heap.size := hb1.size; clear hr1 hb1)
          | (refine wpList_allocH rfl 24 rfl HB0.out (Array.replicate 32 (.int .u8 0)) (by kernel_rfl) 32 (u8v fun _ => 0) (by rfl) (zero_at 32 (.int .u8 0)) ?_; intro w2 hs2'; have h33 := (hs2'.cell 1 33 rfl (by omega)).trans (congrArg some H33.out); have HS2 := Lib.hid hs2'; clear hs2')
          | (go_at_call 17; refine (sub_ge s t hle hs2 _).mono ?_; rintro r w3 ⟨rfl, hw3⟩; subst hw3; rw [← HD.out])
          | (refine wpList_store_arr rfl 24 (.tmp 4) (.tmp 25) rfl (HS2.out.row 0 rfl) (Array.replicate 32 (.int .u8 0)) rfl rfl (by rfl) (by kernel_rfl) (fun i hi => ⟨_, zero_at 32 (.int .u8 0) i hi, rfl⟩) ?_))
        refine ret_rowTmp rfl (HS2.out.setRow 0 rfl (Array.replicate 32 (.int .u8 0)) (by rfl) _ (zero_at 32 (.int .u8 0)) |>.row 0 rfl) _ _ rfl rfl Tryd.underlying24 rfl (by kernel_rfl) rfl ⟨?_, (HS2.out.setRow 0 rfl (Array.replicate 32 (.int .u8 0)) (by rfl) _ (zero_at 32 (.int .u8 0))).out (by simp; omega)⟩
        rw [HV.out]; unfold atE; rw [HA.out]; rfl
  · have hlt : s < t := by omega
    · skip
      have HA := Lib.hid (show atB s t = false by unfold atB; exact decide_eq_false (by omega))
      go_enter Tryd.func6, Tryd.ntmps6
      go_wp2_with (first
        | (refine wpList_box rfl _ _ rfl 1957 F rfl ?_; intro w1 hr1 hb1; have HB0 := Lib.hid (((HS.nil w).below hb1).add hr1 (Nat.le_refl _) (by simp)); have hsz : w.heap.size ≤ w1.heap.size := hb1.size; clear hr1 hb1)
        | (refine wpList_allocH rfl 24 rfl HB0.out (Array.replicate 32 (.int .u8 0)) (by kernel_rfl) 32 (u8v fun _ => 0) (by rfl) (zero_at 32 (.int .u8 0)) ?_; intro w2 hs2'; have h33 := (hs2'.cell 1 33 rfl (by omega)).trans (congrArg some H33.out); have HS2 := Lib.hid hs2'; clear hs2')
        | (go_at_call 17; refine (sub_lt s t hlt _).mono ?_; rintro r w3 ⟨rfl, hw3⟩; subst hw3)
        | (refine wpList_store_arr rfl 24 (.tmp 4) (.tmp 25) rfl (HS2.out.row 0 rfl) (Array.replicate 32 (.int .u8 0)) rfl rfl (by rfl) (by kernel_rfl) (fun i hi => ⟨_, zero_at 32 (.int .u8 0) i hi, rfl⟩) ?_))
      refine ret_rowTmp rfl (HS2.out.setRow 0 rfl (Array.replicate 32 (.int .u8 0)) (by rfl) _ (zero_at 32 (.int .u8 0)) |>.row 0 rfl) _ _ rfl rfl Tryd.underlying24 rfl (by kernel_rfl) rfl ⟨?_, (HS2.out.setRow 0 rfl (Array.replicate 32 (.int .u8 0)) (by rfl) _ (zero_at 32 (.int .u8 0))).out (by simp; omega)⟩
      rw [HV.out]; unfold atE; rw [HA.out]; rfl
set_option maxHeartbeats 1000000 in
theorem rootAt_ref (F : Nat → Value) (hF : Sc F 49) (s t : Nat) (hs : F 33 = .int .u64 (s : Int)) (hs2 : s < 18446744073709551616) (ht : t < 18446744073709551616) (w : World) :
    Calls Tryd.prog 7 #[.agg (arr 1957 F), .int .u64 (t : Int)] w fun r w' => r = .returned (.tuple #[atV F s t, .int .i64 (atE s t)]) ∧ Below w.heap.size w w' := by
  have H33 := Lib.hid hs
  have HSc := Lib.hid hF
  have hi8 : t % 8 < 8 := by omega
  obtain ⟨G, hG⟩ : ∃ G : Nat → Value, ∀ q, G q = F (141 + t % 8 * 32 + q) := ⟨_, fun _ => rfl⟩
  have HG := Lib.hid hG
  have HV := Lib.hid (show atV F s t = if atB s t then .agg (arr 32 G) else .agg (arr 32 (u8v fun _ => 0)) by rw [show G = _ from funext hG]; rfl)
  clear hs hF hG
  by_cases hle : t < s
  · have hge : decide ((s : Int) ≤ (t : Int)) = false := by simp; omega
    have hm : ((s : Int) - (t : Int)) % 18446744073709551616 = (s : Int) - (t : Int) := by omega
    by_cases h8 : s - t ≤ 8
    · have hg : decide ((8 : Int) < (s : Int) - (t : Int)) = false := by simp; omega
      have HA := Lib.hid (show atB s t = true by unfold atB; exact decide_eq_true (by omega))
      go_enter Tryd.func7, Tryd.ntmps7
      go_wp2_with (first
        | (refine wpList_box rfl _ _ rfl 1957 F rfl ?_; intro w1 hr1 hb1; have HB0 := Lib.hid (((HS.nil w).below hb1).add hr1 (Nat.le_refl _) (by simp)); have hsz : w.heap.size ≤ w1.heap.size := hb1.size; clear hr1 hb1)
        | (refine wpList_allocH rfl 24 rfl HB0.out (Array.replicate 32 (.int .u8 0)) (by kernel_rfl) 32 (u8v fun _ => 0) (by rfl) (zero_at 32 (.int .u8 0)) ?_; intro w2 hs2'; have h33 := (hs2'.cell 1 33 rfl (by omega)).trans (congrArg some H33.out); have HS2 := Lib.hid hs2'; clear hs2')
        | (refine wpList_load_rd rfl 24 _ rfl 32 _ Tryd.underlying24 rfl (by kernel_rfl) ⟨w.heap.size, 141 + t % 8 * 32, none⟩ rfl G (fun q hq => by rw [add_litO, HG.out]; exact HS2.out.cell 1 (141 + t % 8 * 32 + q) rfl (by omega)) ?_)
        | (refine wpList_store_arr rfl 24 (.tmp 4) (.tmp 22) rfl (HS2.out.row 0 rfl) (arr 32 G) rfl rfl (size_arr _ _) (by kernel_rfl) (fun q hq => ⟨_, arr_at 32 G q hq, by rw [HG.out]; exact one_root HSc.out hi8 hq⟩) ?_))
      refine ret_rowTmp rfl (HS2.out.setRow 0 rfl (arr 32 G) (size_arr _ _) _ (fun q hq => arr_at _ _ q hq) |>.row 0 rfl) _ _ rfl rfl Tryd.underlying24 rfl (by kernel_rfl) rfl ⟨?_, (HS2.out.setRow 0 rfl (arr 32 G) (size_arr _ _) _ (fun q hq => arr_at _ _ q hq)).out (by simp; omega)⟩
      rw [HV.out]; unfold atE; rw [HA.out]; rfl
    · have hg : decide ((8 : Int) < (s : Int) - (t : Int)) = true := by simp; omega
      have HA := Lib.hid (show atB s t = false by unfold atB; exact decide_eq_false (by omega))
      go_enter Tryd.func7, Tryd.ntmps7
      go_wp2_with (first
        | (refine wpList_box rfl _ _ rfl 1957 F rfl ?_; intro w1 hr1 hb1; have HB0 := Lib.hid (((HS.nil w).below hb1).add hr1 (Nat.le_refl _) (by simp)); have hsz : w.heap.size ≤ w1.heap.size := hb1.size; clear hr1 hb1)
        | (refine wpList_allocH rfl 24 rfl HB0.out (Array.replicate 32 (.int .u8 0)) (by kernel_rfl) 32 (u8v fun _ => 0) (by rfl) (zero_at 32 (.int .u8 0)) ?_; intro w2 hs2'; have h33 := (hs2'.cell 1 33 rfl (by omega)).trans (congrArg some H33.out); have HS2 := Lib.hid hs2'; clear hs2')
        | (refine wpList_store_arr rfl 24 (.tmp 4) (.tmp 17) rfl (HS2.out.row 0 rfl) (Array.replicate 32 (.int .u8 0)) rfl rfl (by rfl) (by kernel_rfl) (fun i hi => ⟨_, zero_at 32 (.int .u8 0) i hi, rfl⟩) ?_))
      refine ret_rowTmp rfl (HS2.out.setRow 0 rfl (Array.replicate 32 (.int .u8 0)) (by rfl) _ (zero_at 32 (.int .u8 0)) |>.row 0 rfl) _ _ rfl rfl Tryd.underlying24 rfl (by kernel_rfl) rfl ⟨?_, (HS2.out.setRow 0 rfl (Array.replicate 32 (.int .u8 0)) (by rfl) _ (zero_at 32 (.int .u8 0))).out (by simp; omega)⟩
      rw [HV.out]; unfold atE; rw [HA.out]; rfl
  · have hge : decide ((s : Int) ≤ (t : Int)) = true := by simp; omega
    have HA := Lib.hid (show atB s t = false by unfold atB; exact decide_eq_false (by omega))
    go_enter Tryd.func7, Tryd.ntmps7
    go_wp2_with (first
      | (refine wpList_box rfl _ _ rfl 1957 F rfl ?_; intro w1 hr1 hb1; have HB0 := Lib.hid (((HS.nil w).below hb1).add hr1 (Nat.le_refl _) (by simp)); have hsz : w.heap.size ≤ w1.heap.size := hb1.size; clear hr1 hb1)
      | (refine wpList_allocH rfl 24 rfl HB0.out (Array.replicate 32 (.int .u8 0)) (by kernel_rfl) 32 (u8v fun _ => 0) (by rfl) (zero_at 32 (.int .u8 0)) ?_; intro w2 hs2'; have h33 := (hs2'.cell 1 33 rfl (by omega)).trans (congrArg some H33.out); have HS2 := Lib.hid hs2'; clear hs2')
      | (refine wpList_store_arr rfl 24 (.tmp 4) (.tmp 17) rfl (HS2.out.row 0 rfl) (Array.replicate 32 (.int .u8 0)) rfl rfl (by rfl) (by kernel_rfl) (fun i hi => ⟨_, zero_at 32 (.int .u8 0) i hi, rfl⟩) ?_))
    refine ret_rowTmp rfl (HS2.out.setRow 0 rfl (Array.replicate 32 (.int .u8 0)) (by rfl) _ (zero_at 32 (.int .u8 0)) |>.row 0 rfl) _ _ rfl rfl Tryd.underlying24 rfl (by kernel_rfl) rfl ⟨?_, (HS2.out.setRow 0 rfl (Array.replicate 32 (.int .u8 0)) (by rfl) _ (zero_at 32 (.int .u8 0))).out (by simp; omega)⟩
    rw [HV.out]; unfold atE; rw [HA.out]; rfl
end Go.Proofs.YtjphchcjneofhaaDoor
