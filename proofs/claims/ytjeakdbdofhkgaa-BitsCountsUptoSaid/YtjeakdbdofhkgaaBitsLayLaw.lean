/- BitsLay returns true, whatever the bits; nothing that was there is changed. -/
import Derived.Test.YtjeakdbdofhkgaaBitsApartLaw
namespace Go.Proofs.Ytjeakdbdofhkgaa
open Go.RowKit

theorem log2_add {a r : Nat} (h : a < 2 ^ r) : Nat.log2 (a + 2 ^ r) = r := by
  have hp := Nat.pow_pos (n := r) (show 0 < 2 by omega)
  refine (Nat.log2_eq_iff (by omega)).2 ⟨by omega, ?_⟩
  rw [Nat.pow_succ]; omega
theorem hiBit_list (y : Nat → Bool) (n : Nat) (hy : y n = true) : hiBit (byteOf y (n + 1)) (n / 8 + 1) = n := by
  have h := byteOf_at y n hy
  have hb : bitlen (byteOf y (n + 1) (n / 8)) = n % 8 + 1 := by
    unfold bitlen
    rw [h.1, log2_add h.2, if_neg (by have := Nat.pow_pos (n := n % 8) (show 0 < 2 by omega); omega)]
  unfold hiBit
  rw [show n / 8 + 1 - 1 = n / 8 by omega, hb]
  omega
theorem rl_list (y : Nat → Bool) (n : Nat) (hy : y n = true) (hn : n ≤ 4096) : rlErr (byteOf y (n + 1)) (n / 8 + 1) n = 0 ∧ rlLen (byteOf y (n + 1)) (n / 8 + 1) n = n := by
  have h := byteOf_at y n hy
  have e : rlErr (byteOf y (n + 1)) (n / 8 + 1) n = 0 := by
    unfold rlErr
    rw [if_neg (by omega), if_neg (by omega), if_neg, if_neg (by rw [hiBit_list y n hy]; omega)]
    rw [show n / 8 + 1 - 1 = n / 8 by omega, h.1]
    have := Nat.pow_pos (n := n % 8) (show 0 < 2 by omega)
    omega
  exact ⟨e, by unfold rlLen; rw [e, if_pos rfl]; exact hiBit_list y n hy⟩
theorem rv_vec (x : Nat → Bool) (n : Nat) (h1 : 1 ≤ n) (hn : n ≤ 4096) : rvErr (byteOf x n) ((n + 7) / 8) n = 0 ∧ rvLen (byteOf x n) ((n + 7) / 8) n = n := by
  have e : rvErr (byteOf x n) ((n + 7) / 8) n = 0 := rvErr_ok (fun i => byteOf_lt _ _ _) ⟨h1, hn⟩ rfl (fun t ht _ => by rw [bitOf_byteOf]; simp [show ¬ t < n by omega])
  exact ⟨e, by unfold rvLen; rw [e]; simp⟩
theorem rv_none (b : Nat → Nat) (m : Nat) : rvErr b m 0 = 1 ∧ rvLen b m 0 = 0 := by
  have e : rvErr b m 0 = 1 := by unfold rvErr; rw [if_pos (.inl (by omega))]
  exact ⟨e, by unfold rvLen; rw [e]; rfl⟩
theorem sameB_of {x y : Nat → Bool} {n : Nat} (h : ∀ i, i < n → x i = y i) : sameB x y n n = true := by unfold sameB; exact decide_eq_true ⟨rfl, h⟩

set_option maxRecDepth 100000 in
set_option maxHeartbeats 4000000 in
theorem bitsLay_law (w : World) (A : Option Addr) (n c : Nat) (x : Nat → Bool) (ra : Rd w w.heap.size A n (fun i => .bool (x i))) (ln : n ≤ 140737488351232) :
    Calls Try.prog 5 #[.slice A n c] w fun e w' => e = .returned (.bool true) ∧ Below w.heap.size w w' := by
  have Ra := Lib.hid ra
  clear ra
  let y : Nat → Bool := fun i => decide (i < n) && x i || decide (i = n)
  have HF2 := Lib.hid (show ∀ i, i < n + 1 → catF n (fun i => .bool (x i)) (fun _ => .bool true) i = .bool (y i) from fun i hi => by
    by_cases h : i < n
    · simp [catF, y, h, Nat.ne_of_lt h]
    · obtain rfl : i = n := by omega
      simp [catF, y])
  have Hyx := Lib.hid (show ∀ i, i < n → y i = x i from fun i hi => by simp [y, hi, Nat.ne_of_lt hi])
  have Hyn := Lib.hid (show y n = true by simp [y])
  go_enter Try.func5, Try.ntmps5
  go_wp2_with (first
    | (go_at_call 7; refine (awake_any _).mono ?_; rintro e w1 ⟨rfl, hb1⟩; have B1 := Lib.hid hb1; clear hb1; have s1 := B1.out.size)
    | (at_builtin; refine wpList_app _ (.tmp 14) (.tmp 15) 22 w.heap.size bool_info Try.underlying22 rfl rfl rfl n (fun i => .bool (x i)) rfl rfl (Own.new0 _ _ _ (fun i => .bool (x i)) s1) ((Ra.out.below B1.out).alloc s1 _) (fun _ _ => rfl) (Nat.zero_add _).symm (fun _ _ => by simp [catF]) ⟨by omega, by omega⟩ (by simp; omega) ?_; intro A1 c1 w2 o1 g1 b1; have O1 := Lib.hid (And.intro o1 (And.intro g1 b1)); clear o1 g1 b1; have s2 : w1.heap.size + 1 ≤ w2.heap.size := by (have := O1.out.2.1.size; simp at this; exact this))
    | (at_builtin; refine wpList_app _ (.tmp 16) (.tmp 17) 22 w.heap.size bool_info Try.underlying22 rfl rfl rfl (n + 1) (fun i => .bool (y i)) rfl rfl (O1.out.1.alloc _) (Rd.one _ _ _) (fun _ _ => rfl) rfl HF2.out ⟨by omega, by omega⟩ (by simp; omega) ?_; intro A2 c2 w3 o2 g2' b2; obtain ⟨g2, hA2⟩ : ∃ g, A2 = some ⟨g, 0, none⟩ := (by obtain ⟨g, cap, hv, _⟩ := World.ownsRow.form o2 (by omega); injection hv with hv; exact ⟨g, hv⟩); subst hA2; have hc2 := o2.cap; have O2 := Lib.hid (And.intro o2 (And.intro g2' b2)); clear o2 g2' b2; have s3 : w2.heap.size + 1 ≤ w3.heap.size := by (have := O2.out.2.1.size; simp at this; exact this))
    | (go_at_call 10; refine (vector_any w3.heap.size n _ _ x _ (((O2.out.1.rd).short (by omega)).congr (fun i hi => by rw [Hyx.out i hi])) (Nat.le_refl _) (by omega)).mono ?_; rintro e w4 ⟨ga, rfl, hga, hra, hb4⟩; have RA4 := Lib.hid (And.intro hra hb4); clear hra hb4; have s4 := RA4.out.2.size)
    | (go_at_call 9; refine (list_any w4.heap.size n _ _ x _ ((((O2.out.1.rd).below RA4.out.2).more s4).short (by omega) |>.congr (fun i hi => by rw [Hyx.out i hi])) (Nat.le_refl _) (by omega)).mono ?_; rintro e w5 ⟨gb, rfl, hgb, hrb, hb5⟩; have RB := Lib.hid hrb; have RA := Lib.hid (row_below RA4.out.1 hb5 RA4.out.1.lt); have B5 := Lib.hid hb5; clear hrb hb5; have s5 := B5.out.size))
  have b2 : Below w.heap.size w w2 := below_app (B1.out.alloc s1 _) O1.out.2.1 (by simp; omega) (by rintro ad h; injection h with h; subst h; exact s1)
  have b3 : Below w.heap.size w w3 := below_app (b2.alloc b2.size _) O2.out.2.1 (by simp; omega) (fun ad h => (O1.out.1.base_le ad h).1)
  have D5 := Lib.hid ((b3.trans (RA4.out.2.mono b3.size)).trans (B5.out.mono (by omega)))
  have R0 := Lib.hid ((Ra.out.below D5.out).more (B' := w5.heap.size) (by omega))
  have R2 := Lib.hid ((((O2.out.1.rd).below RA4.out.2).below (B5.out.mono s4)).more (B' := w5.heap.size) (by omega))
  have R2x := Lib.hid ((R2.out.short (k := n) (by omega)).congr (f' := fun i => .bool (x i)) (fun i hi => by rw [Hyx.out i hi]))
  have Hsame := Lib.hid (sameB_of (x := x) (y := x) (n := n) (fun _ _ => rfl))
  clear b2 b3
  go_upto_region 6 with fail
  go_cut [57] (fun s wx => s = .bool false ∧ Below w5.heap.size w5 wx)
  case first =>
    refine wp_region_facts (B := w5.heap.size) (w0 := w5) [SF.is (.slice (some ⟨ga, 0, none⟩) ((n + 7) / 8) ((n + 7) / 8)), SF.is (.string (strV x n)), SF.is (.slice A n c), SF.row 5 ((n + 7) / 8) (laid x n), SF.is (.string (strV x n)), SF.is (.bool false), SF.is (.bool false), SF.is (.slice (some ⟨gb, 0, none⟩) (n / 8 + 1) (n / 8 + 1)), SF.is (.string (strL x n)), SF.is (.slice A n c), SF.row 5 (n / 8 + 1) (laid (fun i => decide (i < n) && x i || decide (i = n)) (n + 1)), SF.is (.string (strL x n)), SF.is (.bool false), SF.is (.bool false), SF.is (.bool false), SF.is (.slice (some ⟨g2, 0, none⟩) n c2), SF.is (.slice A n c), SF.is (.bool true), SF.is (.bool false), SF.is (.bool false), SF.is (.bool false), SF.is (.slice (some ⟨g2, 0, none⟩) n c2), SF.is (.slice A n c), SF.is (.int .i64 n), SF.is (.int .i64 ((n : Int) + 1)), SF.is (.slice (some ⟨g2, 0, none⟩) (n + 1) c2), SF.is (.slice A n c), SF.is (.int .i64 n), SF.is (.pointer (some ⟨g2, n, none⟩)), SF.is (.bool true), SF.is (.bool false), SF.is (.bool false)] (by kernel_rfl) (by kernel_rfl) rfl (Nat.le_refl _) (Below.refl _ _) ⟨?_, ?_, ?_, ?_, ?_, ?_, ?_, ?_, ?_, ?_, ?_, ?_, ?_, ?_, ?_, ?_, ?_, ?_, ?_, ?_, ?_, ?_, ?_, ?_, ?_, ?_, ?_, ?_, ?_, ?_, ?_, ?_, trivial⟩ ?_
    · exact (opOb_move _ rfl (.inl rfl) rfl)
    · refine (opOb_val _ rfl fun a w' hb hf => ?_)
      have h26 : a.tmps[26]?.getD undef = .slice (some ⟨ga, 0, none⟩) ((n + 7) / 8) ((n + 7) / 8) := hf 26 List.mem_cons_self
      have hcv := conv_vec w' (c := (n + 7) / 8) (row_below RA.out hb RA.out.lt)
      go_light
      simp [go_sem, h26, hcv]
    · exact (opOb_move _ rfl (.inl rfl) rfl)
    · refine (opOb_call rfl fun a w' hb hf => ?_)
      have h28 : a.tmps[28]?.getD undef = .slice A n c := hf 28 List.mem_cons_self
      refine ⟨12, #[.slice A n c], ?_, (refVector_any w5.heap.size n _ A x _ (R0.out.below hb) hb.size (by omega)).mono fun e w'' ⟨g, he, hg, hrow, hbel⟩ => ⟨_, he, ⟨g, _, rfl, hrow⟩, hbel⟩⟩
      go_light
      simp [go_sem, h28]
    · refine (opOb_val _ rfl fun a w' hb hf => ?_)
      obtain ⟨g29, c29, h29, r29⟩ : ∃ g c, a.tmps[29]?.getD undef = .slice (some ⟨g, 0, none⟩) ((n + 7) / 8) c ∧ w'.rowIs g 5 ((n + 7) / 8) (laid x n) := hf 29 List.mem_cons_self
      have hcv := conv_vec w' (c := c29) r29
      go_light
      simp [go_sem, h29, hcv]
    · refine (opOb_val _ rfl fun a w' hb hf => ?_)
      have h27 : a.tmps[27]?.getD undef = .string (strV x n) := hf 27 List.mem_cons_self
      have h30 : a.tmps[30]?.getD undef = .string (strV x n) := hf 30 (List.mem_cons_of_mem _ List.mem_cons_self)
      go_light
      simp [go_sem, h27, h30]
    · exact (opOb_move _ rfl (.inl rfl) rfl)
    · exact opOb_on 32 rfl rfl (opOb_move _ rfl (.inl rfl) rfl)
    · refine opOb_on 32 rfl rfl (opOb_val _ rfl fun a w' hb hf => ?_)
      have h33 : a.tmps[33]?.getD undef = .slice (some ⟨gb, 0, none⟩) (n / 8 + 1) (n / 8 + 1) := hf 33 List.mem_cons_self
      have hcv := conv_list w' (c := n / 8 + 1) (row_below RB.out hb RB.out.lt)
      go_light
      simp [go_sem, h33, hcv]
    · exact opOb_on 32 rfl rfl (opOb_move _ rfl (.inl rfl) rfl)
    · refine opOb_on 32 rfl rfl (opOb_call rfl fun a w' hb hf => ?_)
      have h35 : a.tmps[35]?.getD undef = .slice A n c := hf 35 List.mem_cons_self
      refine ⟨13, #[.slice A n c], ?_, (refList_any w5.heap.size n _ A x _ (R0.out.below hb) hb.size (by omega)).mono fun e w'' ⟨g, he, hg, hrow, hbel⟩ => ⟨_, he, ⟨g, _, rfl, hrow⟩, hbel⟩⟩
      go_light
      simp [go_sem, h35]
    · refine opOb_on 32 rfl rfl (opOb_val _ rfl fun a w' hb hf => ?_)
      obtain ⟨g36, c36, h36, r36⟩ : ∃ g c, a.tmps[36]?.getD undef = .slice (some ⟨g, 0, none⟩) (n / 8 + 1) c ∧ w'.rowIs g 5 (n / 8 + 1) (laid (fun i => decide (i < n) && x i || decide (i = n)) (n + 1)) := hf 36 List.mem_cons_self
      have hcv := conv_list w' (c := c36) r36
      go_light
      simp [go_sem, h36, hcv]
    · refine opOb_on 32 rfl rfl (opOb_val _ rfl fun a w' hb hf => ?_)
      have h34 : a.tmps[34]?.getD undef = .string (strL x n) := hf 34 List.mem_cons_self
      have h37 : a.tmps[37]?.getD undef = .string (strL x n) := hf 37 (List.mem_cons_of_mem _ List.mem_cons_self)
      go_light
      simp [go_sem, h34, h37]
    · exact (opOb_pick_f _ rfl rfl rfl (.inr ⟨38, rfl, rfl⟩))
    · exact (opOb_move _ rfl (.inl rfl) rfl)
    · exact opOb_on 40 rfl rfl (opOb_move _ rfl (.inl rfl) rfl)
    · exact opOb_on 40 rfl rfl (opOb_move _ rfl (.inl rfl) rfl)
    · refine opOb_on 40 rfl rfl (opOb_call rfl fun a w' hb hf => ?_)
      have h41 : a.tmps[41]?.getD undef = .slice (some ⟨g2, 0, none⟩) n c2 := hf 41 List.mem_cons_self
      have h42 : a.tmps[42]?.getD undef = .slice A n c := hf 42 (List.mem_cons_of_mem _ List.mem_cons_self)
      refine ⟨8, #[.slice (some ⟨g2, 0, none⟩) n c2, .slice A n c], ?_, (same_any w5.heap.size n _ n _ _ A x x _ ((R2x.out.below hb)) (R0.out.below hb) (by omega)).mono fun e w'' ⟨he, hd⟩ => ⟨_, by rw [he, Hsame.out], rfl, hd.below _⟩⟩
      go_light
      simp [go_sem, h41, h42]
    · refine opOb_on 40 rfl rfl (opOb_val _ rfl fun a w' hb hf => ?_)
      have h43 : a.tmps[43]?.getD undef = .bool true := hf 43 List.mem_cons_self
      go_light
      simp [go_sem, h43]
    · exact (opOb_pick_f _ rfl rfl rfl (.inr ⟨44, rfl, rfl⟩))
    · exact (opOb_move _ rfl (.inl rfl) rfl)
    · exact opOb_on 46 rfl rfl (opOb_move _ rfl (.inl rfl) rfl)
    · exact opOb_on 46 rfl rfl (opOb_move _ rfl (.inl rfl) rfl)
    · refine opOb_on 46 rfl rfl (opOb_val _ rfl fun a w' hb hf => ?_)
      have h48 : a.tmps[48]?.getD undef = .slice A n c := hf 48 List.mem_cons_self
      go_light
      simp [go_sem, h48]
    · refine opOb_on 46 rfl rfl (opOb_val _ rfl fun a w' hb hf => ?_)
      have h49 : a.tmps[49]?.getD undef = .int .i64 n := hf 49 List.mem_cons_self
      have hb1 := IntWalk.i64_in ((n : Int) + 1) (by omega)
      go_light
      simp [go_sem, h49, hb1]
    · refine opOb_on 46 rfl rfl (opOb_val _ rfl fun a w' hb hf => ?_)
      have h47 : a.tmps[47]?.getD undef = .slice (some ⟨g2, 0, none⟩) n c2 := hf 47 List.mem_cons_self
      have h50 : a.tmps[50]?.getD undef = .int .i64 ((n : Int) + 1) := hf 50 (List.mem_cons_of_mem _ List.mem_cons_self)
      have hq1 : (0 : Int) ≤ (n : Int) + 1 := by omega
      have hq2 : ¬ ((c2 : Int) < (n : Int) + 1) := by omega
      go_light
      simp [go_sem, h47, h50, hq1, hq2]
    · exact opOb_on 46 rfl rfl (opOb_move _ rfl (.inl rfl) rfl)
    · refine opOb_on 46 rfl rfl (opOb_val _ rfl fun a w' hb hf => ?_)
      have h52 : a.tmps[52]?.getD undef = .slice A n c := hf 52 List.mem_cons_self
      go_light
      simp [go_sem, h52]
    · refine opOb_on 46 rfl rfl (opOb_val _ rfl fun a w' hb hf => ?_)
      have h51 : a.tmps[51]?.getD undef = .slice (some ⟨g2, 0, none⟩) (n + 1) c2 := hf 51 List.mem_cons_self
      have h53 : a.tmps[53]?.getD undef = .int .i64 n := hf 53 (List.mem_cons_of_mem _ List.mem_cons_self)
      have hix : (0 : Int) ≤ n ∧ (n : Int) < n + 1 := by omega
      go_light
      simp [go_sem, h51, h53, hix]
    · refine opOb_on 46 rfl rfl (opOb_val _ rfl fun a w' hb hf => ?_)
      have h54 : a.tmps[54]?.getD undef = .pointer (some ⟨g2, n, none⟩) := hf 54 List.mem_cons_self
      have hcell : w'.cell? ⟨g2, n, none⟩ = some (.bool true) := by have h1 := (R2.out.below hb).cell_ (k := n) (by omega); rw [add_lit0] at h1; rw [h1, Hyn.out]
      go_light
      simp [go_sem, h54, hcell]
    · refine opOb_on 46 rfl rfl (opOb_val _ rfl fun a w' hb hf => ?_)
      have h55 : a.tmps[55]?.getD undef = .bool true := hf 55 List.mem_cons_self
      go_light
      simp [go_sem, h55]
    · exact (opOb_pick_f _ rfl rfl rfl (.inr ⟨56, rfl, rfl⟩))
    · intro w' hb
      simp only [fin, SF.is, SF.row, forall_eq]
      rintro _ ⟨_, _, rfl, _⟩ _ ⟨_, _, rfl, _⟩
      simp only [Act.put, List.setIfInBounds_toArray, List.set_cons_succ, List.set_cons_zero]
      go_wp2_with fail
      go_meet
      exact ⟨rfl, hb⟩
  case rest =>
    obtain ⟨rfl, hb6⟩ := hcut
    have h0 := R0.out.below hb6
    have H0 := Lib.hid (h0.more (B' := wc.heap.size) hb6.size)
    have H2 := Lib.hid ((R2x.out.below hb6).more (B' := wc.heap.size) hb6.size)
    have HA := Lib.hid (row_below RA.out hb6 RA.out.lt)
    have HB := Lib.hid (row_below RB.out hb6 RB.out.lt)
    have D6 := Lib.hid (D5.out.trans (hb6.mono D5.out.size))
    clear hb6
    go_wp2_with fail
    go_loop [6, 7] (fun s i => ∃ k : Nat, k ≤ n ∧ i = .int .i64 k ∧ s = .int .i64 ((count x k : Nat) : Int)) (fun _ i => n - (intOf i).toNat)
    case atStart => exact ⟨0, Nat.zero_le _, rfl, rfl⟩
    case round =>
      obtain ⟨k, hk, rfl, rfl⟩ := hrel
      have hck := count_le x k
      by_cases hkn : k < n
      · obtain ⟨ad, rfl, hbl, hc⟩ := h0.at_ hkn
        have Hl := Lib.hid h0
        clear h0
        cases hx : x k
        · rw [hx] at hc
          have Hx := Lib.hid hx
          clear hx
          go_wp2
          go_round
          case rel => exact ⟨k + 1, by omega, by go_num, by simp only [count, Hx.out]; rfl⟩
          case measure => simp [intOf]; omega
        · rw [hx] at hc
          have Hx := Lib.hid hx
          clear hx
          go_wp2
          go_round
          case rel => exact ⟨k + 1, by omega, by go_num, by simp only [count, Hx.out]; go_num⟩
          case measure => simp [intOf]; omega
      · obtain rfl : k = n := by omega
        clear h0
        by_cases hbig : 4096 < k
        · go_wp2_with (go_at_call 11; refine (count_any _ k _ _ x _ H2.out (by omega)).mono ?_; rintro e w7 ⟨rfl, rfl⟩)
          go_ret
          exact ⟨ret_bool (by simp), D6.out⟩
        · have hrl := rl_list y k Hyn.out (by omega)
          have Hrl := Lib.hid (fun W B A h hB => readList_any B (k / 8 + 1) (k / 8 + 1) k A (byteOf y (k + 1)) W h hB (fun i => byteOf_lt _ _ _) (by omega) (by omega))
          rw [hrl.1, hrl.2] at Hrl
          have Hbx := Lib.hid (show ∀ i, i < k → bitOf (byteOf y (k + 1)) i = x i from fun i hi => by rw [bitOf_byteOf, Hyx.out i hi]; simp [show i < k + 1 by omega])
          have Hbv := Lib.hid (show ∀ i, i < k → bitOf (byteOf x k) i = x i from fun i hi => by rw [bitOf_byteOf]; simp [hi])
          clear hrl
          by_cases hk0 : k = 0
          · subst hk0
            have hrv := rv_none (byteOf x 0) ((0 + 7) / 8)
            have Hrv := Lib.hid (fun W B A h hB => readVector_any B ((0 + 7) / 8) ((0 + 7) / 8) 0 A (byteOf x 0) W h hB (fun i => byteOf_lt _ _ _) (by omega) (by omega))
            rw [hrv.1, hrv.2] at Hrv
            clear hrv
            go_wp2_with (first
              | (go_at_call 14; refine (Hrl.out _ wc.heap.size _ (Rd.of_row HB.out (Nat.le_refl _) HB.out.lt) (Nat.le_refl _)).mono ?_; rintro e w7 ⟨A7, c7, rfl, hc7, hr7, hb7⟩; have H7 := Lib.hid (And.intro (hr7.congr (fun i hi => by rw [Hbx.out i hi])) hb7); clear hr7 hb7)
              | (go_at_call 8; refine (same_any w7.heap.size _ _ _ _ _ _ x x _ H7.out.1 ((H0.out.below H7.out.2).more H7.out.2.size) (by omega)).mono ?_; rw [Hsame.out]; rintro e w8 ⟨rfl, hd8⟩; have H8 := Lib.hid (hd8.below w7.heap.size); clear hd8)
              | (go_at_call 11; refine (count_any wc.heap.size 0 _ _ x _ ((H2.out.below H7.out.2).below (H8.out.mono H7.out.2.size)) (by omega)).mono ?_; rintro e w9 ⟨rfl, rfl⟩)
              | (go_at_call 15; refine (Hrv.out _ wc.heap.size _ ((Rd.of_row HA.out (Nat.le_refl _) HA.out.lt).below H7.out.2 |>.below (H8.out.mono H7.out.2.size)) (Nat.le_trans H7.out.2.size H8.out.size)).mono ?_; rintro e w9 ⟨A9, c9, rfl, hc9, hr9, hb9⟩; have H9 := Lib.hid hb9; clear hr9 hb9))
            go_ret
            exact ⟨rfl, ((D6.out.trans (H7.out.2.mono D6.out.size)).trans (H8.out.mono (Nat.le_trans D6.out.size H7.out.2.size))).trans (H9.out.mono (Nat.le_trans (Nat.le_trans D6.out.size H7.out.2.size) H8.out.size))⟩
          · have hrv := rv_vec x k (by omega) (by omega)
            have Hrv := Lib.hid (fun W B A h hB => readVector_any B ((k + 7) / 8) ((k + 7) / 8) k A (byteOf x k) W h hB (fun i => byteOf_lt _ _ _) (by omega) (by omega))
            rw [hrv.1, hrv.2] at Hrv
            have hk1 : ((k : Int) == 0) = false := by rw [beq_eq_false_iff_ne]; omega
            clear hrv hk0
            go_wp2_with (first
              | (go_at_call 14; refine (Hrl.out _ wc.heap.size _ (Rd.of_row HB.out (Nat.le_refl _) HB.out.lt) (Nat.le_refl _)).mono ?_; rintro e w7 ⟨A7, c7, rfl, hc7, hr7, hb7⟩; have H7 := Lib.hid (And.intro (hr7.congr (fun i hi => by rw [Hbx.out i hi])) hb7); clear hr7 hb7)
              | (go_at_call_of 8 A7; refine (same_any w7.heap.size _ _ _ _ _ _ x x _ H7.out.1 ((H0.out.below H7.out.2).more H7.out.2.size) (by omega)).mono ?_; rw [Hsame.out]; rintro e w8 ⟨rfl, hd8⟩; have H8 := Lib.hid (hd8.below w7.heap.size); clear hd8)
              | (go_at_call 11; refine (count_any wc.heap.size k _ _ x _ ((H2.out.below H7.out.2).below (H8.out.mono H7.out.2.size)) (by omega)).mono ?_; rintro e w9 ⟨rfl, rfl⟩)
              | (go_at_call 15; refine (Hrv.out _ wc.heap.size _ ((Rd.of_row HA.out (Nat.le_refl _) HA.out.lt).below H7.out.2 |>.below (H8.out.mono H7.out.2.size)) (Nat.le_trans H7.out.2.size H8.out.size)).mono ?_; rintro e w9 ⟨A9, c9, rfl, hc9, hr9, hb9⟩; have H9 := Lib.hid (And.intro (hr9.congr (fun i hi => by rw [Hbv.out i hi])) hb9); clear hr9 hb9)
              | (go_at_call_of 8 A9; refine (same_any w9.heap.size _ _ _ _ _ _ x x _ H9.out.1 ((((H0.out.below H7.out.2).below (H8.out.mono H7.out.2.size)).below (H9.out.2.mono (Nat.le_trans H7.out.2.size H8.out.size))).more (Nat.le_trans (Nat.le_trans H7.out.2.size H8.out.size) H9.out.2.size)) (by omega)).mono ?_; rw [Hsame.out]; rintro e w10 ⟨rfl, hd10⟩; have H10 := Lib.hid (hd10.below w9.heap.size); clear hd10))
            go_ret
            have d7 := D6.out.trans (H7.out.2.mono D6.out.size)
            have d8 := d7.trans (H8.out.mono (by have := d7.size; have := H7.out.2.size; have := D6.out.size; omega))
            have d9 := d8.trans (H9.out.2.mono d8.size)
            exact ⟨rfl, d9.trans (H10.out.mono d9.size)⟩
end Go.Proofs.Ytjeakdbdofhkgaa

