/- BitsApart returns true, whatever the two lists of bits; nothing that was there is changed. -/
import Derived.Test.YtjeakdbdofhkgaaBitsAwake
import Derived.Deep.DeepCutAuto
import Derived.Test.YtjeakdbdofhkgaaReg
import Derived.Deep.Light
namespace Go.Proofs.Ytjeakdbdofhkgaa
open Go.RowKit

theorem strF_eq_iff {n m : Nat} {x y : Nat → Nat} (hx : ∀ i, i < n → x i < 256) (hy : ∀ i, i < m → y i < 256) : (strF n x = strF m y) ↔ (n = m ∧ ∀ i, i < n → x i = y i) :=
  ⟨strF_inj hx hy, fun ⟨h, k⟩ => by subst h; exact strF_congr k⟩

/-- The list's bytes tell the bits. -/
theorem list_str_iff (x y : Nat → Bool) (n m : Nat) :
    (strF (n / 8 + 1) (byteOf (fun i => decide (i < n) && x i || decide (i = n)) (n + 1)) = strF (m / 8 + 1) (byteOf (fun i => decide (i < m) && y i || decide (i = m)) (m + 1))) ↔ sameB x y n m = true := by
  rw [strF_eq_iff (fun i _ => byteOf_lt _ _ _) (fun i _ => byteOf_lt _ _ _)]
  unfold sameB
  rw [decide_eq_true_iff]
  constructor
  · rintro ⟨h, k⟩
    have hb : ∀ i, i < 8 * (n / 8 + 1) → (decide (i < n + 1) && (decide (i < n) && x i || decide (i = n))) = (decide (i < m + 1) && (decide (i < m) && y i || decide (i = m))) := by
      intro i hi
      have := k (i / 8) (by omega)
      rw [← bitOf_byteOf (fun i => decide (i < n) && x i || decide (i = n)), ← bitOf_byteOf (fun i => decide (i < m) && y i || decide (i = m))]
      unfold bitOf; rw [this]
    have hnm : n = m := by
      have h1 := hb n (by omega)
      have h2 := hb m (by omega)
      rcases Nat.lt_trichotomy n m with h | h | h
      · have : ¬ m < n := by omega
        have : ¬ m = n := by omega
        have : ¬ m < n + 1 := by omega
        simp_all
      · exact h
      · have : ¬ n < m := by omega
        have : ¬ n = m := by omega
        have : ¬ n < m + 1 := by omega
        simp_all
    subst hnm
    refine ⟨rfl, fun i hi => ?_⟩
    have := hb i (by omega)
    have h1 : i < n + 1 := by omega
    have h2 : ¬ i = n := by omega
    simpa [hi, h1, h2] using this
  · rintro ⟨rfl, k⟩
    refine ⟨rfl, fun j _ => ?_⟩
    have e : ∀ i, (decide (i < n) && x i || decide (i = n)) = (decide (i < n) && y i || decide (i = n)) := fun i => by
      by_cases h : i < n
      · simp [h, k i h]
      · simp [h]
    rw [show (fun i => decide (i < n) && x i || decide (i = n)) = (fun i => decide (i < n) && y i || decide (i = n)) from funext e]
theorem vec_str_iff (x y : Nat → Bool) (n : Nat) : (strF ((n + 7) / 8) (byteOf x n) = strF ((n + 7) / 8) (byteOf y n)) ↔ sameB x y n n = true := by
  rw [strF_eq_iff (fun i _ => byteOf_lt _ _ _) (fun i _ => byteOf_lt _ _ _)]
  unfold sameB
  rw [decide_eq_true_iff]
  constructor
  · rintro ⟨_, k⟩
    refine ⟨rfl, fun i hi => ?_⟩
    have h := k (i / 8) (by omega)
    have h1 := bitOf_byteOf x n i
    have h2 := bitOf_byteOf y n i
    unfold bitOf at h1 h2
    rw [h] at h1
    rw [h1] at h2
    simpa [hi] using h2
  · rintro ⟨_, k⟩
    refine ⟨rfl, fun j _ => ?_⟩
    unfold byteOf bt
    have e : ∀ k', (if 8 * j + k' < n ∧ x (8 * j + k') = true then 1 else 0) = (if 8 * j + k' < n ∧ y (8 * j + k') = true then 1 else 0) := fun k' => by
      by_cases h : 8 * j + k' < n
      · simp [h, k _ h]
      · simp [h]
    simp only [e]

/-- The string of a list's bytes, of a vector's. -/
def strL (x : Nat → Bool) (n : Nat) : ByteArray := strF (n / 8 + 1) (byteOf (fun i => decide (i < n) && x i || decide (i = n)) (n + 1))
def strV (x : Nat → Bool) (n : Nat) : ByteArray := strF ((n + 7) / 8) (byteOf x n)
theorem beq_bytes (a b : ByteArray) : (a.toList == b.toList) = decide (a = b) := by
  rw [ByteArray.toList_eq, ByteArray.toList_eq, Bool.eq_iff_iff, beq_iff_eq, decide_eq_true_iff]
  constructor
  · intro h
    have : a.data = b.data := by simpa using congrArg List.toArray h
    cases a; cases b; simp_all
  · rintro rfl; rfl
theorem strL_beq (x y : Nat → Bool) (n m : Nat) : ((strL x n).toList == (strL y m).toList) = sameB x y n m := by
  rw [beq_bytes, Bool.eq_iff_iff, decide_eq_true_iff]; exact list_str_iff x y n m
theorem strV_beq (x y : Nat → Bool) (n : Nat) : ((strV x n).toList == (strV y n).toList) = sameB x y n n := by
  rw [beq_bytes, Bool.eq_iff_iff, decide_eq_true_iff]; exact vec_str_iff x y n
theorem conv_list (w : World) {g n : Nat} {x : Nat → Bool} {c : Nat} (h : w.rowIs g 5 (n / 8 + 1) (laid (fun i => decide (i < n) && x i || decide (i = n)) (n + 1))) :
    (convert 25 9 (.slice (some ⟨g, 0, none⟩) (n / 8 + 1) c)).run Try.prog w = .ok (.string (strL x n)) w := conv_row w h
theorem conv_vec (w : World) {g n : Nat} {x : Nat → Bool} {c : Nat} (h : w.rowIs g 5 ((n + 7) / 8) (laid x n)) :
    (convert 25 9 (.slice (some ⟨g, 0, none⟩) ((n + 7) / 8) c)).run Try.prog w = .ok (.string (strV x n)) w := conv_row w h

set_option maxHeartbeats 1000000 in
theorem bitsApart_law (w : World) (A : Option Addr) (n c : Nat) (x : Nat → Bool) (ra : Rd w w.heap.size A n (fun i => .bool (x i))) (ln : n ≤ 140737488351232)
    (C : Option Addr) (m d : Nat) (y : Nat → Bool) (rb : Rd w w.heap.size C m (fun i => .bool (y i))) (lm : m ≤ 140737488351232) :
    Calls Try.prog 3 #[.slice A n c, .slice C m d] w fun e w' => e = .returned (.bool true) ∧ Below w.heap.size w w' := by
  have Ra := Lib.hid ra
  have Rb := Lib.hid rb
  clear ra rb
  have hL := strL_beq x y n m
  go_enter Try.func3, Try.ntmps3
  go_wp2_with (first
    | (go_at_call 7; refine (awake_any _).mono ?_; rintro e w1 ⟨rfl, hb1⟩; have B1 := Lib.hid hb1; clear hb1)
    | (go_at_call 8; refine (same_any w.heap.size _ _ _ _ _ _ x y _ (Ra.out.below B1.out) (Rb.out.below B1.out) (by omega)).mono ?_; rintro e w2 ⟨rfl, hd2⟩; have D2 := Lib.hid (B1.out.trans (hd2.below w.heap.size)); clear hd2))
  go_upto_region 4 with fail
  go_cut [19] (fun s wx => s = .bool false ∧ Below w.heap.size w wx)
  case first =>
    refine wp_region_facts (B := w.heap.size) (w0 := w) [SF.is (.slice A n c), SF.row 5 (n / 8 + 1) (laid (fun i => decide (i < n) && x i || decide (i = n)) (n + 1)), SF.is (.string (strL x n)), SF.is (.slice C m d), SF.row 5 (m / 8 + 1) (laid (fun i => decide (i < m) && y i || decide (i = m)) (m + 1)), SF.is (.string (strL y m)), SF.is (.bool (sameB x y n m)), SF.is (.bool (sameB x y n m)), SF.is (.bool false)] (by kernel_rfl) (by kernel_rfl) rfl (Nat.le_refl _) D2.out ⟨?_, ?_, ?_, ?_, ?_, ?_, ?_, ?_, ?_, trivial⟩ ?_
    · exact opOb_move _ rfl (.inl rfl) rfl
    · refine opOb_call rfl fun a w' hb hf => ⟨9, #[.slice A n c], ?_, (list_any w.heap.size n _ A x _ (Ra.out.below hb) hb.size (by omega)).mono fun e w'' ⟨g, he, hg, hrow, hbel⟩ => ⟨_, he, ⟨g, _, rfl, hrow⟩, hbel⟩⟩
      have h11 : a.tmps[11]?.getD undef = .slice A n c := hf 11 List.mem_cons_self
      go_light
      simp [go_sem, h11]
    · refine opOb_val _ rfl fun a w' hb hf => ?_
      obtain ⟨g, cg, h12, hrow⟩ : ∃ g c', a.tmps[12]?.getD undef = .slice (some ⟨g, 0, none⟩) (n / 8 + 1) c' ∧ w'.rowIs g 5 (n / 8 + 1) (laid (fun i => decide (i < n) && x i || decide (i = n)) (n + 1)) := hf 12 List.mem_cons_self
      have hcv := conv_list w' (c := cg) hrow
      go_light
      simp [go_sem, h12, hcv]
    · exact opOb_move _ rfl (.inl rfl) rfl
    · refine opOb_call rfl fun a w' hb hf => ⟨9, #[.slice C m d], ?_, (list_any w.heap.size m _ C y _ (Rb.out.below hb) hb.size (by omega)).mono fun e w'' ⟨g, he, hg, hrow, hbel⟩ => ⟨_, he, ⟨g, _, rfl, hrow⟩, hbel⟩⟩
      have h14 : a.tmps[14]?.getD undef = .slice C m d := hf 14 List.mem_cons_self
      go_light
      simp [go_sem, h14]
    · refine opOb_val _ rfl fun a w' hb hf => ?_
      obtain ⟨g, cg, h15, hrow⟩ : ∃ g c', a.tmps[15]?.getD undef = .slice (some ⟨g, 0, none⟩) (m / 8 + 1) c' ∧ w'.rowIs g 5 (m / 8 + 1) (laid (fun i => decide (i < m) && y i || decide (i = m)) (m + 1)) := hf 15 List.mem_cons_self
      have hcv := conv_list w' (c := cg) hrow
      go_light
      simp [go_sem, h15, hcv]
    · refine opOb_val _ rfl fun a w' hb hf => ?_
      have h13 : a.tmps[13]?.getD undef = .string (strL x n) := hf 13 List.mem_cons_self
      have h16 : a.tmps[16]?.getD undef = .string (strL y m) := hf 16 (List.mem_cons_of_mem _ List.mem_cons_self)
      go_light
      simp [go_sem, h13, h16, hL]
    · exact opOb_move _ rfl (.inl rfl) rfl
    · refine opOb_val _ rfl fun a w' hb hf => ?_
      have h17 : a.tmps[17]?.getD undef = .bool (sameB x y n m) := hf 17 List.mem_cons_self
      have h18 : a.tmps[18]?.getD undef = .bool (sameB x y n m) := hf 18 (List.mem_cons_of_mem _ List.mem_cons_self)
      go_light
      simp [go_sem, h17, h18]
    · intro w' hb
      simp only [fin, SF.is, SF.row, forall_eq]
      rintro _ ⟨g, c', rfl, _⟩ _ ⟨g', c'', rfl, _⟩
      simp only [Act.put, List.setIfInBounds_toArray, List.set_cons_succ, List.set_cons_zero]
      go_wp2_with fail
      go_meet
      exact ⟨rfl, hb⟩
  case rest =>
    obtain ⟨rfl, hb0⟩ := hcut
    by_cases hnm : n = m
    · subst hnm
      have hV := strV_beq x y n
      go_wp2_with fail
      refine wp_region_facts (B := w.heap.size) (w0 := w) [SF.is (.slice A n c), SF.is (.int .i64 n), SF.is (.slice C n d), SF.is (.int .i64 n), SF.is (.bool false), SF.is (.bool false), SF.is (.slice A n c), SF.row 5 ((n + 7) / 8) (laid x n), SF.is (.string (strV x n)), SF.is (.slice C n d), SF.row 5 ((n + 7) / 8) (laid y n), SF.is (.string (strV y n)), SF.is (.bool (sameB x y n n)), SF.is (.bool (sameB x y n n)), SF.is (.bool true), SF.is (.bool true), SF.is (.bool true)] (by kernel_rfl) (by kernel_rfl) rfl (Nat.le_refl _) hb0 ⟨?_, ?_, ?_, ?_, ?_, ?_, ?_, ?_, ?_, ?_, ?_, ?_, ?_, ?_, ?_, ?_, ?_, trivial⟩ ?_
      · exact opOb_move _ rfl (.inl rfl) rfl
      · refine opOb_val _ rfl fun a w' hb hf => ?_
        have h20 : a.tmps[20]?.getD undef = .slice A n c := hf 20 List.mem_cons_self
        go_light
        simp [go_sem, h20]
      · exact opOb_move _ rfl (.inl rfl) rfl
      · refine opOb_val _ rfl fun a w' hb hf => ?_
        have h22 : a.tmps[22]?.getD undef = .slice C n d := hf 22 List.mem_cons_self
        go_light
        simp [go_sem, h22]
      · refine opOb_val _ rfl fun a w' hb hf => ?_
        have h21 : a.tmps[21]?.getD undef = .int .i64 n := hf 21 List.mem_cons_self
        have h23 : a.tmps[23]?.getD undef = .int .i64 n := hf 23 (List.mem_cons_of_mem _ List.mem_cons_self)
        go_light
        simp [go_sem, h21, h23]
      · exact opOb_move _ rfl (.inl rfl) rfl
      · exact opOb_on 25 rfl rfl (opOb_move _ rfl (.inl rfl) rfl)
      · refine opOb_on 25 rfl rfl (opOb_call rfl fun a w' hb hf => ⟨10, #[.slice A n c], ?_, (vector_any w.heap.size n _ A x _ (Ra.out.below hb) hb.size (by omega)).mono fun e w'' ⟨g, he, hg, hrow, hbel⟩ => ⟨_, he, ⟨g, _, rfl, hrow⟩, hbel⟩⟩)
        have h26 : a.tmps[26]?.getD undef = .slice A n c := hf 26 List.mem_cons_self
        go_light
        simp [go_sem, h26]
      · refine opOb_on 25 rfl rfl (opOb_val _ rfl fun a w' hb hf => ?_)
        obtain ⟨g, cg, h27, hrow⟩ : ∃ g c', a.tmps[27]?.getD undef = .slice (some ⟨g, 0, none⟩) ((n + 7) / 8) c' ∧ w'.rowIs g 5 ((n + 7) / 8) (laid x n) := hf 27 List.mem_cons_self
        have hcv := conv_vec w' (c := cg) hrow
        go_light
        simp [go_sem, h27, hcv]
      · exact opOb_on 25 rfl rfl (opOb_move _ rfl (.inl rfl) rfl)
      · refine opOb_on 25 rfl rfl (opOb_call rfl fun a w' hb hf => ⟨10, #[.slice C n d], ?_, (vector_any w.heap.size n _ C y _ (Rb.out.below hb) hb.size (by omega)).mono fun e w'' ⟨g, he, hg, hrow, hbel⟩ => ⟨_, he, ⟨g, _, rfl, hrow⟩, hbel⟩⟩)
        have h29 : a.tmps[29]?.getD undef = .slice C n d := hf 29 List.mem_cons_self
        go_light
        simp [go_sem, h29]
      · refine opOb_on 25 rfl rfl (opOb_val _ rfl fun a w' hb hf => ?_)
        obtain ⟨g, cg, h30, hrow⟩ : ∃ g c', a.tmps[30]?.getD undef = .slice (some ⟨g, 0, none⟩) ((n + 7) / 8) c' ∧ w'.rowIs g 5 ((n + 7) / 8) (laid y n) := hf 30 List.mem_cons_self
        have hcv := conv_vec w' (c := cg) hrow
        go_light
        simp [go_sem, h30, hcv]
      · refine opOb_on 25 rfl rfl (opOb_val _ rfl fun a w' hb hf => ?_)
        have h28 : a.tmps[28]?.getD undef = .string (strV x n) := hf 28 List.mem_cons_self
        have h31 : a.tmps[31]?.getD undef = .string (strV y n) := hf 31 (List.mem_cons_of_mem _ List.mem_cons_self)
        go_light
        simp [go_sem, h28, h31, hV]
      · exact opOb_on 25 rfl rfl (opOb_move _ rfl (.inl rfl) rfl)
      · refine opOb_on 25 rfl rfl (opOb_val _ rfl fun a w' hb hf => ?_)
        have h32 : a.tmps[32]?.getD undef = .bool (sameB x y n n) := hf 32 List.mem_cons_self
        have h33 : a.tmps[33]?.getD undef = .bool (sameB x y n n) := hf 33 (List.mem_cons_of_mem _ List.mem_cons_self)
        go_light
        simp [go_sem, h32, h33]
      · exact opOb_pick_f _ rfl rfl rfl (.inr ⟨34, rfl, rfl⟩)
      · exact opOb_move _ rfl (.inr rfl) rfl
      · intro w' hb
        simp only [fin, SF.is, SF.row, forall_eq]
        rintro _ ⟨g, c', rfl, _⟩ _ ⟨g', c'', rfl, _⟩
        simp only [Act.put, List.setIfInBounds_toArray, List.set_cons_succ, List.set_cons_zero]
        go_wp2_with fail
        go_ret
        exact ⟨rfl, hb⟩
    · have hne : ((n : Int) != (m : Int)) = true := by rw [bne_iff_ne]; omega
      have H := Lib.hid hnm
      clear hnm
      go_wp2_with fail
      refine wp_region_facts (B := w.heap.size) (w0 := w) [SF.is (.slice A n c), SF.is (.int .i64 n), SF.is (.slice C m d), SF.is (.int .i64 m), SF.is (.bool true), SF.is (.bool true), SF.is undef, SF.is undef, SF.is undef, SF.is undef, SF.is undef, SF.is undef, SF.is undef, SF.is undef, SF.is undef, SF.is (.bool true), SF.is (.bool true)] (by kernel_rfl) (by kernel_rfl) rfl (Nat.le_refl _) hb0 ⟨?_, ?_, ?_, ?_, ?_, ?_, ?_, ?_, ?_, ?_, ?_, ?_, ?_, ?_, ?_, ?_, ?_, trivial⟩ ?_
      · exact opOb_move _ rfl (.inl rfl) rfl
      · refine opOb_val _ rfl fun a w' hb hf => ?_
        have h20 : a.tmps[20]?.getD undef = .slice A n c := hf 20 List.mem_cons_self
        go_light
        simp [go_sem, h20]
      · exact opOb_move _ rfl (.inl rfl) rfl
      · refine opOb_val _ rfl fun a w' hb hf => ?_
        have h22 : a.tmps[22]?.getD undef = .slice C m d := hf 22 List.mem_cons_self
        go_light
        simp [go_sem, h22]
      · refine opOb_val _ rfl fun a w' hb hf => ?_
        have h21 : a.tmps[21]?.getD undef = .int .i64 n := hf 21 List.mem_cons_self
        have h23 : a.tmps[23]?.getD undef = .int .i64 m := hf 23 (List.mem_cons_of_mem _ List.mem_cons_self)
        go_light
        simp [go_sem, h21, h23, hne]
      · exact opOb_move _ rfl (.inl rfl) rfl
      · exact opOb_off 25 rfl rfl (by simp)
      · exact opOb_off 25 rfl rfl (by simp)
      · exact opOb_off 25 rfl rfl (by simp)
      · exact opOb_off 25 rfl rfl (by simp)
      · exact opOb_off 25 rfl rfl (by simp)
      · exact opOb_off 25 rfl rfl (by simp)
      · exact opOb_off 25 rfl rfl (by simp)
      · exact opOb_off 25 rfl rfl (by simp)
      · exact opOb_off 25 rfl rfl (by simp)
      · exact opOb_pick_t _ rfl rfl rfl (.inl ⟨_, rfl, rfl⟩)
      · exact opOb_move _ rfl (.inr rfl) rfl
      · intro w' hb
        simp only [fin, SF.is, forall_eq]
        simp only [Act.put, List.setIfInBounds_toArray, List.set_cons_succ, List.set_cons_zero]
        go_wp2_with fail
        go_ret
        exact ⟨rfl, hb⟩
end Go.Proofs.Ytjeakdbdofhkgaa
