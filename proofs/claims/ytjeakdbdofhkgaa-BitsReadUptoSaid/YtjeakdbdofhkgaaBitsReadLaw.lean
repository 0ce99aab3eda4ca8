/- BitsRead returns true, whatever the bytes and the number, where they are of bulk at most 1048576; nothing that was there is changed. -/
import Derived.Test.YtjeakdbdofhkgaaBitsLayLaw
namespace Go.Proofs.Ytjeakdbdofhkgaa
open Go.RowKit

theorem byteOf_congr {x y : Nat → Bool} {n j : Nat} (h : ∀ i, i < n → x i = y i) : byteOf x n j = byteOf y n j := by
  have e : ∀ k, bt x n j k = bt y n j k := fun k => by
    unfold bt
    by_cases c : 8 * j + k < n
    · simp [c, h _ c]
    · simp [c]
  unfold byteOf
  simp only [e]
theorem rv_ok {z : Nat → Nat} {m : Nat} {n : Int} (h : rvErr z m n = 0) : 1 ≤ n ∧ n ≤ 4096 ∧ m = (n.toNat + 7) / 8 ∧ z (m - 1) / 2 ^ ((n.toNat + 7) % 8 + 1) = 0 := by
  unfold rvErr at h
  by_cases h1 : n < 1 ∨ 4096 < n
  · rw [if_pos h1] at h; omega
  rw [if_neg h1] at h
  by_cases h2 : m = (n.toNat + 7) / 8
  · rw [if_neg (by omega)] at h
    by_cases h3 : z (m - 1) / 2 ^ ((n.toNat + 7) % 8 + 1) = 0
    · exact ⟨by omega, by omega, h2, h3⟩
    · rw [if_pos h3] at h; omega
  · rw [if_pos h2] at h; omega
theorem vec_back {z : Nat → Nat} {m : Nat} {n : Int} (zb : ∀ i, z i < 256) (h : rvErr z m n = 0) : strV (bitOf z) (rvLen z m n) = strF m z := by
  obtain ⟨h1, h2, h3, h4⟩ := rv_ok h
  have hl : rvLen z m n = n.toNat := by unfold rvLen; rw [if_pos h]
  rw [hl]
  unfold strV
  rw [← h3]
  refine strF_congr fun j hj => byteOf_bitOf z n.toNat j (zb j) ?_
  by_cases e : j = m - 1
  · subst e
    rw [show n.toNat - 8 * (m - 1) = (n.toNat + 7) % 8 + 1 by omega]
    rcases Nat.lt_or_ge (z (m - 1)) (2 ^ ((n.toNat + 7) % 8 + 1)) with h5 | h5
    · exact h5
    · have := Nat.div_pos h5 (Nat.pow_pos (by omega)); omega
  · exact Nat.lt_of_lt_of_le (zb j) (Nat.pow_le_pow_right (n := 2) (by omega) (show 8 ≤ n.toNat - 8 * j by omega))
theorem rl_ok {z : Nat → Nat} {m : Nat} {n : Int} (h : rlErr z m n = 0) : 0 ≤ n ∧ n ≤ 4096 ∧ m ≠ 0 ∧ z (m - 1) ≠ 0 := by
  unfold rlErr at h
  by_cases h1 : n < 0 ∨ 4096 < n
  · rw [if_pos h1] at h; omega
  rw [if_neg h1] at h
  by_cases h2 : m = 0
  · rw [if_pos h2] at h; omega
  rw [if_neg h2] at h
  by_cases h3 : z (m - 1) = 0
  · rw [if_pos h3] at h; omega
  · exact ⟨by omega, by omega, h2, h3⟩
theorem list_back {z : Nat → Nat} {m : Nat} {n : Int} (zb : ∀ i, z i < 256) (h : rlErr z m n = 0) : strL (bitOf z) (rlLen z m n) = strF m z := by
  obtain ⟨h1, h2, h3, h4⟩ := rl_ok h
  have hl : rlLen z m n = hiBit z m := by unfold rlLen; rw [if_pos h]
  have hset := hiBit_set zb (show 1 ≤ m by omega) h4
  have e : hiBit z m = 8 * (m - 1) + Nat.log2 (z (m - 1)) := by unfold hiBit bitlen; rw [if_neg h4]; rfl
  have hl8 : Nat.log2 (z (m - 1)) < 8 := (Nat.log2_lt h4).2 (zb _)
  have hhi := Nat.lt_log2_self (n := z (m - 1))
  rw [hl]
  unfold strL
  rw [show hiBit z m / 8 + 1 = m by omega]
  refine strF_congr fun j hj => ?_
  rw [byteOf_congr (y := bitOf z) (fun i hi => ?_)]
  · refine byteOf_bitOf z _ j (zb j) ?_
    by_cases e2 : j = m - 1
    · subst e2
      rw [show hiBit z m + 1 - 8 * (m - 1) = Nat.log2 (z (m - 1)) + 1 by omega]
      exact hhi
    · exact Nat.lt_of_lt_of_le (zb j) (Nat.pow_le_pow_right (n := 2) (by omega) (show 8 ≤ hiBit z m + 1 - 8 * j by omega))
  · by_cases c : i < hiBit z m
    · simp [c, Nat.ne_of_lt c]
    · have e3 : i = hiBit z m := by omega
      subst e3
      simp [hset]
theorem rvLen_le (z : Nat → Nat) (m : Nat) (n : Int) : rvLen z m n ≤ 4096 := by
  unfold rvLen
  by_cases h : rvErr z m n = 0
  · rw [if_pos h]; have := rv_ok h; omega
  · rw [if_neg h]; omega
theorem rlLen_le (z : Nat → Nat) (m : Nat) (n : Int) : rlLen z m n ≤ 4096 := by
  unfold rlLen
  by_cases h : rlErr z m n = 0
  · rw [if_pos h]
    have h5 := h
    unfold rlErr at h5
    obtain ⟨h1, h2, h3, h4⟩ := rl_ok h
    rw [if_neg (by omega), if_neg h3, if_neg h4] at h5
    by_cases h6 : n < hiBit z m
    · rw [if_pos h6] at h5; omega
    · omega
  · rw [if_neg h]; omega
theorem conv_rd (w : World) {B n c : Nat} {A : Option Addr} {z : Nat → Nat} (h : Rd w B A n (fun i => .int .u8 ((z i : Nat) : Int))) : (convert 25 9 (.slice A n c)).run Try.prog w = .ok (.string (strF n z)) w :=
  run_convert_rd w _ _ 5 Try.underlying25 Try.underlying5 Try.underlying9 z h

set_option maxRecDepth 100000 in
set_option maxHeartbeats 4000000 in
theorem bitsRead_law (w : World) (A : Option Addr) (m c : Nat) (z : Nat → Nat) (rz : Rd w w.heap.size A m (fun i => .int .u8 ((z i : Nat) : Int))) (zb : ∀ i, z i < 256) (lm : m ≤ 1048576) (n : Int) (hn : -9223372036854775808 ≤ n ∧ n ≤ 9223372036854775807) :
    Calls Try.prog 6 #[.slice A m c, .int .i64 n] w fun e w' => e = .returned (.bool true) ∧ Below w.heap.size w w' := by
  have Rz := Lib.hid rz
  have Zb := Lib.hid zb
  clear rz zb
  have lv := rvLen_le z m n
  have ll := rlLen_le z m n
  go_enter Try.func6, Try.ntmps6
  go_wp2_with (first
    | (go_at_call 7; refine (awake_any _).mono ?_; rintro e w1 ⟨rfl, hb1⟩; have B1 := Lib.hid hb1; clear hb1; have s1 := B1.out.size)
    | (at_builtin; refine wpList_app _ (.tmp 12) (.tmp 13) 25 w.heap.size u8_info Try.underlying25 rfl rfl rfl m (fun i => .int .u8 ((z i : Nat) : Int)) rfl rfl (Own.new0 _ _ _ (fun i => .int .u8 ((z i : Nat) : Int)) s1) ((Rz.out.below B1.out).alloc s1 _) (fun _ _ => rfl) (Nat.zero_add _).symm (fun _ _ => by simp [catF]) ⟨by omega, by omega⟩ (by simp; omega) ?_; intro A2 c2 w2 o1 g1 b1; have O1 := Lib.hid (And.intro o1 (And.intro g1 b1)); clear o1 g1 b1; have s2 : w1.heap.size + 1 ≤ w2.heap.size := by (have := O1.out.2.1.size; simp at this; exact this))
    | (go_at_call 15; refine (readVector_any w2.heap.size m _ n _ z _ O1.out.1.rd (Nat.le_refl _) Zb.out (by omega) hn).mono ?_; rintro e w3 ⟨AX, cX, rfl, hcX, hr3, hb3⟩; have B3 := Lib.hid (And.intro hr3 hb3); clear hr3 hb3; have s3 := B3.out.2.size)
    | (go_at_call 16; refine (refReadVector_any w.heap.size m _ n _ z _ ?_ (by omega) Zb.out (by omega) hn).mono ?_; have b2 : Below w.heap.size w w2 := below_app (B1.out.alloc s1 _) O1.out.2.1 (by simp; omega) (by rintro ad h; injection h with h; subst h; exact s1); exact Rz.out.below (b2.trans (B3.out.2.mono b2.size)); rintro e w4 ⟨AY, cY, rfl, hcY, hr4, hb4⟩; have B4 := Lib.hid (And.intro hr4 hb4); clear hr4 hb4; have s4 := B4.out.2.size))
  have b2 : Below w.heap.size w w2 := below_app (B1.out.alloc s1 _) O1.out.2.1 (by simp; omega) (by rintro ad h; injection h with h; subst h; exact s1)
  have D4 := Lib.hid ((b2.trans (B3.out.2.mono b2.size)).trans (B4.out.2.mono (by omega)))
  have RB4 := Lib.hid ((Rz.out.below D4.out).more (B' := w4.heap.size) (by omega))
  have RM4 := Lib.hid (((O1.out.1.rd.below B3.out.2).below (B4.out.2.mono s3)).more (B' := w4.heap.size) (by omega))
  have RX := Lib.hid ((B3.out.1.below B4.out.2).more s4)
  have RY := Lib.hid B4.out.1
  have RB := RB4
  have Hsame := Lib.hid (sameB_of (x := bitOf z) (y := bitOf z) (n := rvLen z m n) (fun _ _ => rfl))
  have zb := Zb
  clear b2
  go_upto_region 6 with fail
  go_cut [47] (fun s wx => s = .bool false ∧ Below w4.heap.size w4 wx)
  case first =>
    by_cases hE : rvErr z m n = 0
    · have Hback := Lib.hid (vec_back zb hE)
      have he0 : ((rvErr z m n) == 0) = true := by rw [beq_iff_eq]; exact hE
      have HE := Lib.hid hE
      clear hE
      refine wp_region_facts (B := w4.heap.size) (w0 := w4) [SF.is (.int .i64 (rvErr z m n)), SF.is (.int .i64 (rvErr z m n)), SF.is (.bool false), SF.is (.bool false), SF.is (.slice AX (rvLen z m n) cX), SF.is (.slice AY (rvLen z m n) cY), SF.is (.bool true), SF.is (.bool false), SF.is (.bool false), SF.is (.bool false), SF.is (.int .i64 (rvErr z m n)), SF.is (.bool true), SF.is (.bool true), SF.is (.slice AX (rvLen z m n) cX), SF.row 5 ((rvLen z m n + 7) / 8) (laid (bitOf z) (rvLen z m n)), SF.is (.string (strV (bitOf z) (rvLen z m n))), SF.is (.slice A m c), SF.is (.string (strF m z)), SF.is (.bool false), SF.is (.bool false), SF.is (.bool false)] (by kernel_rfl) (by kernel_rfl) rfl (Nat.le_refl _) (Below.refl _ _) ⟨?_, ?_, ?_, ?_, ?_, ?_, ?_, ?_, ?_, ?_, ?_, ?_, ?_, ?_, ?_, ?_, ?_, ?_, ?_, ?_, ?_, trivial⟩ ?_
      · exact (opOb_move _ rfl (.inl rfl) rfl)
      · exact (opOb_move _ rfl (.inl rfl) rfl)
      · refine (opOb_val _ rfl fun a w' hb hf => ?_)
        have h27 : a.tmps[27]?.getD undef = .int .i64 (rvErr z m n) := hf 27 List.mem_cons_self
        have h28 : a.tmps[28]?.getD undef = .int .i64 (rvErr z m n) := hf 28 (List.mem_cons_of_mem _ List.mem_cons_self)
        go_light
        simp [go_sem, h27, h28]
      · exact (opOb_move _ rfl (.inl rfl) rfl)
      · exact opOb_on 30 rfl rfl (opOb_move _ rfl (.inl rfl) rfl)
      · exact opOb_on 30 rfl rfl (opOb_move _ rfl (.inl rfl) rfl)
      · refine opOb_on 30 rfl rfl (opOb_call rfl fun a w' hb hf => ?_)
        have h31 : a.tmps[31]?.getD undef = .slice AX (rvLen z m n) cX := hf 31 List.mem_cons_self
        have h32 : a.tmps[32]?.getD undef = .slice AY (rvLen z m n) cY := hf 32 (List.mem_cons_of_mem _ List.mem_cons_self)
        refine ⟨8, #[.slice AX (rvLen z m n) cX, .slice AY (rvLen z m n) cY], ?_, (same_any w4.heap.size _ _ _ _ _ _ (bitOf z) (bitOf z) _ (RX.out.below hb) (RY.out.below hb) (by omega)).mono fun e w'' ⟨he, hd⟩ => ⟨_, by rw [he, Hsame.out], rfl, hd.below _⟩⟩
        go_light
        simp [go_sem, h31, h32]
      · refine opOb_on 30 rfl rfl (opOb_val _ rfl fun a w' hb hf => ?_)
        have h33 : a.tmps[33]?.getD undef = .bool true := hf 33 List.mem_cons_self
        go_light
        simp [go_sem, h33]
      · exact (opOb_pick_f _ rfl rfl rfl (.inr ⟨34, rfl, rfl⟩))
      · exact (opOb_move _ rfl (.inl rfl) rfl)
      · exact opOb_on 36 rfl rfl (opOb_move _ rfl (.inl rfl) rfl)
      · refine opOb_on 36 rfl rfl (opOb_val _ rfl fun a w' hb hf => ?_)
        have h37 : a.tmps[37]?.getD undef = .int .i64 (rvErr z m n) := hf 37 List.mem_cons_self
        go_light
        simp [go_sem, h37, he0]
      · exact opOb_on 36 rfl rfl (opOb_move _ rfl (.inl rfl) rfl)
      · exact opOb_on 39 rfl rfl (opOb_move _ rfl (.inl rfl) rfl)
      · refine opOb_on 39 rfl rfl (opOb_call rfl fun a w' hb hf => ?_)
        have h40 : a.tmps[40]?.getD undef = .slice AX (rvLen z m n) cX := hf 40 List.mem_cons_self
        refine ⟨10, #[.slice AX (rvLen z m n) cX], ?_, (vector_any w4.heap.size (rvLen z m n) _ AX (bitOf z) _ (RX.out.below hb) hb.size (by omega)).mono fun e w'' ⟨g, he, hg, hrow, hbel⟩ => ⟨_, he, ⟨g, _, rfl, hrow⟩, hbel⟩⟩
        go_light
        simp [go_sem, h40]
      · refine opOb_on 39 rfl rfl (opOb_val _ rfl fun a w' hb hf => ?_)
        obtain ⟨g41, c41, h41, r41⟩ : ∃ g c, a.tmps[41]?.getD undef = .slice (some ⟨g, 0, none⟩) ((rvLen z m n + 7) / 8) c ∧ w'.rowIs g 5 ((rvLen z m n + 7) / 8) (laid (bitOf z) (rvLen z m n)) := hf 41 List.mem_cons_self
        have hcv := conv_vec w' (c := c41) r41
        go_light
        simp [go_sem, h41, hcv]
      · exact opOb_on 39 rfl rfl (opOb_move _ rfl (.inl rfl) rfl)
      · refine opOb_on 39 rfl rfl (opOb_val _ rfl fun a w' hb hf => ?_)
        have h43 : a.tmps[43]?.getD undef = .slice A m c := hf 43 List.mem_cons_self
        have hcv := conv_rd w' (c := c) (RB.out.below hb)
        go_light
        simp [go_sem, h43, hcv]
      · refine opOb_on 39 rfl rfl (opOb_val _ rfl fun a w' hb hf => ?_)
        have h42 : a.tmps[42]?.getD undef = .string (strV (bitOf z) (rvLen z m n)) := hf 42 List.mem_cons_self
        have h44 : a.tmps[44]?.getD undef = .string (strF m z) := hf 44 (List.mem_cons_of_mem _ List.mem_cons_self)
        go_light
        simp [go_sem, h42, h44, Hback.out]
      · exact opOb_on 36 rfl rfl (opOb_pick_t _ rfl rfl rfl (.inr ⟨45, rfl, rfl⟩))
      · exact (opOb_pick_f _ rfl rfl rfl (.inr ⟨46, rfl, rfl⟩))
      · intro w' hb
        simp only [fin, SF.is, SF.row, forall_eq]
        rintro _ ⟨_, _, rfl, _⟩
        simp only [Act.put, List.setIfInBounds_toArray, List.set_cons_succ, List.set_cons_zero]
        go_wp2_with fail
        go_meet
        exact ⟨rfl, hb⟩
    · have he0 : ((rvErr z m n) == 0) = false := by rw [beq_eq_false_iff_ne]; exact hE
      have HE := Lib.hid hE
      clear hE
      refine wp_region_facts (B := w4.heap.size) (w0 := w4) [SF.is (.int .i64 (rvErr z m n)), SF.is (.int .i64 (rvErr z m n)), SF.is (.bool false), SF.is (.bool false), SF.is (.slice AX (rvLen z m n) cX), SF.is (.slice AY (rvLen z m n) cY), SF.is (.bool true), SF.is (.bool false), SF.is (.bool false), SF.is (.bool false), SF.is (.int .i64 (rvErr z m n)), SF.is (.bool false), SF.is (.bool false), SF.is undef, SF.is undef, SF.is undef, SF.is undef, SF.is undef, SF.is undef, SF.is (.bool false), SF.is (.bool false)] (by kernel_rfl) (by kernel_rfl) rfl (Nat.le_refl _) (Below.refl _ _) ⟨?_, ?_, ?_, ?_, ?_, ?_, ?_, ?_, ?_, ?_, ?_, ?_, ?_, ?_, ?_, ?_, ?_, ?_, ?_, ?_, ?_, trivial⟩ ?_
      · exact (opOb_move _ rfl (.inl rfl) rfl)
      · exact (opOb_move _ rfl (.inl rfl) rfl)
      · refine (opOb_val _ rfl fun a w' hb hf => ?_)
        have h27 : a.tmps[27]?.getD undef = .int .i64 (rvErr z m n) := hf 27 List.mem_cons_self
        have h28 : a.tmps[28]?.getD undef = .int .i64 (rvErr z m n) := hf 28 (List.mem_cons_of_mem _ List.mem_cons_self)
        go_light
        simp [go_sem, h27, h28]
      · exact (opOb_move _ rfl (.inl rfl) rfl)
      · exact opOb_on 30 rfl rfl (opOb_move _ rfl (.inl rfl) rfl)
      · exact opOb_on 30 rfl rfl (opOb_move _ rfl (.inl rfl) rfl)
      · refine opOb_on 30 rfl rfl (opOb_call rfl fun a w' hb hf => ?_)
        have h31 : a.tmps[31]?.getD undef = .slice AX (rvLen z m n) cX := hf 31 List.mem_cons_self
        have h32 : a.tmps[32]?.getD undef = .slice AY (rvLen z m n) cY := hf 32 (List.mem_cons_of_mem _ List.mem_cons_self)
        refine ⟨8, #[.slice AX (rvLen z m n) cX, .slice AY (rvLen z m n) cY], ?_, (same_any w4.heap.size _ _ _ _ _ _ (bitOf z) (bitOf z) _ (RX.out.below hb) (RY.out.below hb) (by omega)).mono fun e w'' ⟨he, hd⟩ => ⟨_, by rw [he, Hsame.out], rfl, hd.below _⟩⟩
        go_light
        simp [go_sem, h31, h32]
      · refine opOb_on 30 rfl rfl (opOb_val _ rfl fun a w' hb hf => ?_)
        have h33 : a.tmps[33]?.getD undef = .bool true := hf 33 List.mem_cons_self
        go_light
        simp [go_sem, h33]
      · exact (opOb_pick_f _ rfl rfl rfl (.inr ⟨34, rfl, rfl⟩))
      · exact (opOb_move _ rfl (.inl rfl) rfl)
      · exact opOb_on 36 rfl rfl (opOb_move _ rfl (.inl rfl) rfl)
      · refine opOb_on 36 rfl rfl (opOb_val _ rfl fun a w' hb hf => ?_)
        have h37 : a.tmps[37]?.getD undef = .int .i64 (rvErr z m n) := hf 37 List.mem_cons_self
        go_light
        simp [go_sem, h37, he0]
      · exact opOb_on 36 rfl rfl (opOb_move _ rfl (.inl rfl) rfl)
      · exact opOb_off 39 rfl rfl (by simp)
      · exact opOb_off 39 rfl rfl (by simp)
      · exact opOb_off 39 rfl rfl (by simp)
      · exact opOb_off 39 rfl rfl (by simp)
      · exact opOb_off 39 rfl rfl (by simp)
      · exact opOb_off 39 rfl rfl (by simp)
      · exact opOb_on 36 rfl rfl (opOb_pick_f _ rfl rfl rfl (.inl ⟨_, rfl, rfl⟩))
      · exact (opOb_pick_f _ rfl rfl rfl (.inr ⟨46, rfl, rfl⟩))
      · intro w' hb
        simp only [fin, SF.is, forall_eq]
        simp only [Act.put, List.setIfInBounds_toArray, List.set_cons_succ, List.set_cons_zero]
        go_wp2_with fail
        go_meet
        exact ⟨rfl, hb⟩
  case rest =>
    obtain ⟨rfl, hb5⟩ := hcut
    have RA5 := Lib.hid ((RM4.out.below hb5).more (B' := wc.heap.size) hb5.size)
    have RB5 := Lib.hid ((RB4.out.below hb5).more (B' := wc.heap.size) hb5.size)
    have D5 := Lib.hid (D4.out.trans (hb5.mono D4.out.size))
    clear hb5 RX RY RB Hsame
    go_wp2_with (first
      | (go_at_call 14; refine (readList_any wc.heap.size m _ n _ z _ RA5.out (Nat.le_refl _) Zb.out (by omega) hn).mono ?_; rintro e w6 ⟨AX, cX, rfl, hcX, hr6, hb6⟩; have B6 := Lib.hid (And.intro hr6 hb6); clear hr6 hb6; have s6 := B6.out.2.size)
      | (go_at_call 17; refine (refReadList_any wc.heap.size m _ n _ z _ (RB5.out.below B6.out.2) s6 Zb.out (by omega) hn).mono ?_; rintro e w7 ⟨AY, cY, rfl, hcY, hr7, hb7⟩; have B7 := Lib.hid (And.intro hr7 hb7); clear hr7 hb7; have s7 := B7.out.2.size))
    have D7 := Lib.hid ((D5.out.trans (B6.out.2.mono D5.out.size)).trans (B7.out.2.mono (Nat.le_trans D5.out.size s6)))
    have RB := Lib.hid (((RB5.out.below B6.out.2).below (B7.out.2.mono s6)).more (B' := w7.heap.size) (by omega))
    have RM := Lib.hid (((RA5.out.below B6.out.2).below (B7.out.2.mono s6)).more (B' := w7.heap.size) (by omega))
    have RX := Lib.hid ((B6.out.1.below B7.out.2).more s7)
    have RY := Lib.hid B7.out.1
    have Hsame := Lib.hid (sameB_of (x := bitOf z) (y := bitOf z) (n := rlLen z m n) (fun _ _ => rfl))
    go_upto_region 10 with fail
    go_cut [80] (fun s wx => s = .bool false ∧ Below w7.heap.size w7 wx)
    case first =>
      by_cases hE : rlErr z m n = 0
      · have Hback := Lib.hid (list_back zb hE)
        have he0 : ((rlErr z m n) == 0) = true := by rw [beq_iff_eq]; exact hE
        have HE := Lib.hid hE
        clear hE
        refine wp_region_facts (B := w7.heap.size) (w0 := w7) [SF.is (.int .i64 (rlErr z m n)), SF.is (.int .i64 (rlErr z m n)), SF.is (.bool false), SF.is (.bool false), SF.is (.slice AX (rlLen z m n) cX), SF.is (.slice AY (rlLen z m n) cY), SF.is (.bool true), SF.is (.bool false), SF.is (.bool false), SF.is (.bool false), SF.is (.int .i64 (rlErr z m n)), SF.is (.bool true), SF.is (.bool true), SF.is (.slice AX (rlLen z m n) cX), SF.row 5 ((rlLen z m n) / 8 + 1) (laid (fun i => decide (i < rlLen z m n) && bitOf z i || decide (i = rlLen z m n)) (rlLen z m n + 1)), SF.is (.string (strL (bitOf z) (rlLen z m n))), SF.is (.slice A m c), SF.is (.string (strF m z)), SF.is (.bool false), SF.is (.bool false), SF.is (.bool false)] (by kernel_rfl) (by kernel_rfl) rfl (Nat.le_refl _) (Below.refl _ _) ⟨?_, ?_, ?_, ?_, ?_, ?_, ?_, ?_, ?_, ?_, ?_, ?_, ?_, ?_, ?_, ?_, ?_, ?_, ?_, ?_, ?_, trivial⟩ ?_
        · exact (opOb_move _ rfl (.inl rfl) rfl)
        · exact (opOb_move _ rfl (.inl rfl) rfl)
        · refine (opOb_val _ rfl fun a w' hb hf => ?_)
          have h60 : a.tmps[60]?.getD undef = .int .i64 (rlErr z m n) := hf 60 List.mem_cons_self
          have h61 : a.tmps[61]?.getD undef = .int .i64 (rlErr z m n) := hf 61 (List.mem_cons_of_mem _ List.mem_cons_self)
          go_light
          simp [go_sem, h60, h61]
        · exact (opOb_move _ rfl (.inl rfl) rfl)
        · exact opOb_on 63 rfl rfl (opOb_move _ rfl (.inl rfl) rfl)
        · exact opOb_on 63 rfl rfl (opOb_move _ rfl (.inl rfl) rfl)
        · refine opOb_on 63 rfl rfl (opOb_call rfl fun a w' hb hf => ?_)
          have h64 : a.tmps[64]?.getD undef = .slice AX (rlLen z m n) cX := hf 64 List.mem_cons_self
          have h65 : a.tmps[65]?.getD undef = .slice AY (rlLen z m n) cY := hf 65 (List.mem_cons_of_mem _ List.mem_cons_self)
          refine ⟨8, #[.slice AX (rlLen z m n) cX, .slice AY (rlLen z m n) cY], ?_, (same_any w7.heap.size _ _ _ _ _ _ (bitOf z) (bitOf z) _ (RX.out.below hb) (RY.out.below hb) (by omega)).mono fun e w'' ⟨he, hd⟩ => ⟨_, by rw [he, Hsame.out], rfl, hd.below _⟩⟩
          go_light
          simp [go_sem, h64, h65]
        · refine opOb_on 63 rfl rfl (opOb_val _ rfl fun a w' hb hf => ?_)
          have h66 : a.tmps[66]?.getD undef = .bool true := hf 66 List.mem_cons_self
          go_light
          simp [go_sem, h66]
        · exact (opOb_pick_f _ rfl rfl rfl (.inr ⟨67, rfl, rfl⟩))
        · exact (opOb_move _ rfl (.inl rfl) rfl)
        · exact opOb_on 69 rfl rfl (opOb_move _ rfl (.inl rfl) rfl)
        · refine opOb_on 69 rfl rfl (opOb_val _ rfl fun a w' hb hf => ?_)
          have h70 : a.tmps[70]?.getD undef = .int .i64 (rlErr z m n) := hf 70 List.mem_cons_self
          go_light
          simp [go_sem, h70, he0]
        · exact opOb_on 69 rfl rfl (opOb_move _ rfl (.inl rfl) rfl)
        · exact opOb_on 72 rfl rfl (opOb_move _ rfl (.inl rfl) rfl)
        · refine opOb_on 72 rfl rfl (opOb_call rfl fun a w' hb hf => ?_)
          have h73 : a.tmps[73]?.getD undef = .slice AX (rlLen z m n) cX := hf 73 List.mem_cons_self
          refine ⟨9, #[.slice AX (rlLen z m n) cX], ?_, (list_any w7.heap.size (rlLen z m n) _ AX (bitOf z) _ (RX.out.below hb) hb.size (by omega)).mono fun e w'' ⟨g, he, hg, hrow, hbel⟩ => ⟨_, he, ⟨g, _, rfl, hrow⟩, hbel⟩⟩
          go_light
          simp [go_sem, h73]
        · refine opOb_on 72 rfl rfl (opOb_val _ rfl fun a w' hb hf => ?_)
          obtain ⟨g74, c74, h74, r74⟩ : ∃ g c, a.tmps[74]?.getD undef = .slice (some ⟨g, 0, none⟩) ((rlLen z m n) / 8 + 1) c ∧ w'.rowIs g 5 ((rlLen z m n) / 8 + 1) (laid (fun i => decide (i < rlLen z m n) && bitOf z i || decide (i = rlLen z m n)) (rlLen z m n + 1)) := hf 74 List.mem_cons_self
          have hcv := conv_list w' (c := c74) r74
          go_light
          simp [go_sem, h74, hcv]
        · exact opOb_on 72 rfl rfl (opOb_move _ rfl (.inl rfl) rfl)
        · refine opOb_on 72 rfl rfl (opOb_val _ rfl fun a w' hb hf => ?_)
          have h76 : a.tmps[76]?.getD undef = .slice A m c := hf 76 List.mem_cons_self
          have hcv := conv_rd w' (c := c) (RB.out.below hb)
          go_light
          simp [go_sem, h76, hcv]
        · refine opOb_on 72 rfl rfl (opOb_val _ rfl fun a w' hb hf => ?_)
          have h75 : a.tmps[75]?.getD undef = .string (strL (bitOf z) (rlLen z m n)) := hf 75 List.mem_cons_self
          have h77 : a.tmps[77]?.getD undef = .string (strF m z) := hf 77 (List.mem_cons_of_mem _ List.mem_cons_self)
          go_light
          simp [go_sem, h75, h77, Hback.out]
        · exact opOb_on 69 rfl rfl (opOb_pick_t _ rfl rfl rfl (.inr ⟨78, rfl, rfl⟩))
        · exact (opOb_pick_f _ rfl rfl rfl (.inr ⟨79, rfl, rfl⟩))
        · intro w' hb
          simp only [fin, SF.is, SF.row, forall_eq]
          rintro _ ⟨_, _, rfl, _⟩
          simp only [Act.put, List.setIfInBounds_toArray, List.set_cons_succ, List.set_cons_zero]
          go_wp2_with fail
          go_meet
          exact ⟨rfl, hb⟩
      · have he0 : ((rlErr z m n) == 0) = false := by rw [beq_eq_false_iff_ne]; exact hE
        have HE := Lib.hid hE
        clear hE
        refine wp_region_facts (B := w7.heap.size) (w0 := w7) [SF.is (.int .i64 (rlErr z m n)), SF.is (.int .i64 (rlErr z m n)), SF.is (.bool false), SF.is (.bool false), SF.is (.slice AX (rlLen z m n) cX), SF.is (.slice AY (rlLen z m n) cY), SF.is (.bool true), SF.is (.bool false), SF.is (.bool false), SF.is (.bool false), SF.is (.int .i64 (rlErr z m n)), SF.is (.bool false), SF.is (.bool false), SF.is undef, SF.is undef, SF.is undef, SF.is undef, SF.is undef, SF.is undef, SF.is (.bool false), SF.is (.bool false)] (by kernel_rfl) (by kernel_rfl) rfl (Nat.le_refl _) (Below.refl _ _) ⟨?_, ?_, ?_, ?_, ?_, ?_, ?_, ?_, ?_, ?_, ?_, ?_, ?_, ?_, ?_, ?_, ?_, ?_, ?_, ?_, ?_, trivial⟩ ?_
        · exact (opOb_move _ rfl (.inl rfl) rfl)
        · exact (opOb_move _ rfl (.inl rfl) rfl)
        · refine (opOb_val _ rfl fun a w' hb hf => ?_)
          have h60 : a.tmps[60]?.getD undef = .int .i64 (rlErr z m n) := hf 60 List.mem_cons_self
          have h61 : a.tmps[61]?.getD undef = .int .i64 (rlErr z m n) := hf 61 (List.mem_cons_of_mem _ List.mem_cons_self)
          go_light
          simp [go_sem, h60, h61]
        · exact (opOb_move _ rfl (.inl rfl) rfl)
        · exact opOb_on 63 rfl rfl (opOb_move _ rfl (.inl rfl) rfl)
        · exact opOb_on 63 rfl rfl (opOb_move _ rfl (.inl rfl) rfl)
        · refine opOb_on 63 rfl rfl (opOb_call rfl fun a w' hb hf => ?_)
          have h64 : a.tmps[64]?.getD undef = .slice AX (rlLen z m n) cX := hf 64 List.mem_cons_self
          have h65 : a.tmps[65]?.getD undef = .slice AY (rlLen z m n) cY := hf 65 (List.mem_cons_of_mem _ List.mem_cons_self)
          refine ⟨8, #[.slice AX (rlLen z m n) cX, .slice AY (rlLen z m n) cY], ?_, (same_any w7.heap.size _ _ _ _ _ _ (bitOf z) (bitOf z) _ (RX.out.below hb) (RY.out.below hb) (by omega)).mono fun e w'' ⟨he, hd⟩ => ⟨_, by rw [he, Hsame.out], rfl, hd.below _⟩⟩
          go_light
          simp [go_sem, h64, h65]
        · refine opOb_on 63 rfl rfl (opOb_val _ rfl fun a w' hb hf => ?_)
          have h66 : a.tmps[66]?.getD undef = .bool true := hf 66 List.mem_cons_self
          go_light
          simp [go_sem, h66]
        · exact (opOb_pick_f _ rfl rfl rfl (.inr ⟨67, rfl, rfl⟩))
        · exact (opOb_move _ rfl (.inl rfl) rfl)
        · exact opOb_on 69 rfl rfl (opOb_move _ rfl (.inl rfl) rfl)
        · refine opOb_on 69 rfl rfl (opOb_val _ rfl fun a w' hb hf => ?_)
          have h70 : a.tmps[70]?.getD undef = .int .i64 (rlErr z m n) := hf 70 List.mem_cons_self
          go_light
          simp [go_sem, h70, he0]
        · exact opOb_on 69 rfl rfl (opOb_move _ rfl (.inl rfl) rfl)
        · exact opOb_off 72 rfl rfl (by simp)
        · exact opOb_off 72 rfl rfl (by simp)
        · exact opOb_off 72 rfl rfl (by simp)
        · exact opOb_off 72 rfl rfl (by simp)
        · exact opOb_off 72 rfl rfl (by simp)
        · exact opOb_off 72 rfl rfl (by simp)
        · exact opOb_on 69 rfl rfl (opOb_pick_f _ rfl rfl rfl (.inl ⟨_, rfl, rfl⟩))
        · exact (opOb_pick_f _ rfl rfl rfl (.inr ⟨79, rfl, rfl⟩))
        · intro w' hb
          simp only [fin, SF.is, forall_eq]
          simp only [Act.put, List.setIfInBounds_toArray, List.set_cons_succ, List.set_cons_zero]
          go_wp2_with fail
          go_meet
          exact ⟨rfl, hb⟩
    case rest =>
      obtain ⟨rfl, hb8⟩ := hcut
      have hcv1 := conv_rd wc (c := c2) (RM.out.below hb8)
      have hcv2 := conv_rd wc (c := c) (RB.out.below hb8)
      have D8 := Lib.hid (D7.out.trans (hb8.mono D7.out.size))
      clear hb8
      go_wp2_with fail
      go_ret
      exact ⟨rfl, D8.out⟩
end Go.Proofs.Ytjeakdbdofhkgaa
