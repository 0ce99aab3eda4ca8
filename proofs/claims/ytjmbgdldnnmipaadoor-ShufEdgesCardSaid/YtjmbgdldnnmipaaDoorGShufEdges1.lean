/- A part of what the proofs stand on: ShufEdgesLaw. -/
import Derived.Test.YtjmbgdldnnmipaaDoorGShu18
/- The law ShufEdges. (Printed by a program of mine.) -/
namespace Go.Proofs.YtjmbgdldnnmipaaDoor
set_option maxRecDepth 40000
open Go.RowKit
namespace ShufEdgesLaw
theorem mul3I (k : Nat) (h : 3 * k < 9223372036854775808) (w : World) : (binOp .mul 3 (.int .i64 3) (.int .i64 (k : Int))).run Tryd.prog w = .ok (.int .i64 ((3 * k : Nat) : Int)) w := by
  simp [go_sem, IntKind.wrap, IntKind.bits, IntKind.signed]; omega
theorem mul3U (k : Nat) (h : 3 * k < 18446744073709551616) (w : World) : (binOp .mul 25 (.int .u64 3) (.int .u64 (k : Int))).run Tryd.prog w = .ok (.int .u64 ((3 * k : Nat) : Int)) w := by
  simp [go_sem, IntKind.wrap, IntKind.bits, IntKind.signed]; omega
theorem made_64 (N : Nat) : ∀ i, i < N → (madeCells (Value.int .u64 0).cells N)[i]? = some (u64v (fun _ => 0) i) := fun i hi => by
  simp [madeCells, Value.cells, hi, u64v, Nat.mod_one]
/-- The list of which k elements are laid. -/
def risN (k : Nat) : Nat → Nat := fun q => if q < k then 3 * q else 0
theorem up_zero (q : Nat) : u64v (risN 0) q = u64v (fun _ => 0) q := by
  unfold risN
  simp only [u64v]
  rw [if_neg (by omega)]
theorem up_step (k q : Nat) : (if q = k then (.int .u64 ((3 * k : Nat) : Int) : Value) else u64v (risN k) q) = u64v (risN (k + 1)) q := by
  unfold risN
  simp only [u64v]
  by_cases h : q = k
  · subst h; rw [if_pos rfl, if_pos (by omega)]
  · rw [if_neg h]
    by_cases h1 : q < k
    · rw [if_pos h1, if_pos (by omega)]
    · rw [if_neg h1, if_neg (by omega)]
theorem run_idxZV {P : Program} (w : World) {t e : TypeId} {z n c k : Nat} (hu : P.underlying t = some (.slice e)) (hz : (P.info? e).map (·.size) = some z) (ad : Addr) (hk : k < n) : (Instr.indexAt t (.slice (some ad) n c) (.int .u64 (k : Int))).run P w = .ok (.pointer (some (ad.add (k * z)))) w := by
  have h1 : ¬ n ≤ k := by omega
  simp [Instr.indexAt, run_underlying hu, sizeOf_run hz, go_sem, h1]
theorem rem16 (m r : Nat) (h : m % 65536 = r) (hm : m < 18446744073709551616) (w : World) : (binOp .rem 25 (.int .u64 (m : Int)) (.int .u64 65536)).run Tryd.prog w = .ok (.int .u64 (r : Int)) w := by
  obtain ⟨M, hM⟩ : ∃ M : Nat, M = 65536 := ⟨_, rfl⟩
  have h1 := ShufLawOps.remU m M r (by omega) (by rw [hM]; exact h) hm w
  rwa [show (M : Int) = 65536 by omega] at h1
theorem placeRef16 (s : Nat → Nat) (hs : ∀ i, s i < 256) (i : Nat) (w : World) (hi : i < 65536) (hp : RefPkg w) :
    Calls Tryd.prog 34 #[.int .u64 (i : Int), .int .u64 65536, rootV s] w fun e w' => e = .returned (.tuple #[.int .u64 ((placeN s 65536 i : Nat) : Int), .int .i64 0]) ∧ Below w.heap.size w w' := by
  obtain ⟨M, hM⟩ : ∃ M : Nat, M = 65536 := ⟨_, rfl⟩
  have h1 := placeRef_ok s hs M i w (by omega) (by omega) hp
  rwa [show (M : Int) = 65536 by omega, show placeN s M i = placeN s 65536 i by rw [hM]] at h1
end ShufEdgesLaw
open ShufLawOps ShufEdgesLaw in
set_option maxHeartbeats 16000000 in
theorem edges_more (w : World) (s : Nat → Nat) (hs : ∀ i, s i < 256) (v : Value) (hp : ShaPkg w) :
    Calls Tryd.prog 11 #[.bool true, rootV s, v] w fun e w' => e = .returned (.bool true) ∧ Below w.heap.size w w' := by
  have HS0 := Lib.hid (HS.nil w)
  have HP := Lib.hid hp
  have HSl := Lib.hid hs
  obtain ⟨N, hN⟩ : ∃ N : Nat, N = 65537 := ⟨_, rfl⟩
  have HN := Lib.hid (show (65536 : Int) + 1 = (N : Int) by omega)
  have hN1 : 65536 < N := by omega
  have hN2 : N < 100000 := by omega
  clear hp hs hN
  go_enter Tryd.func11, Tryd.ntmps11
  go_wp2_with (first
    | (refine wpList_boxL rfl 23 _ 4 rfl rfl HS0.out 32 (u8v s) rfl ?_; intro b4 w4 hb4 hc4 hs; have HS4 := Lib.hid hs; have hb4w : b4 < w4.heap.size := hs.lt 0 rfl; clear hs)
    | (go_at_call 29; refine (awake12_any _ (HP.out.below (HS4.out.out (by simp; omega)))).mono ?_; rintro e w6 ⟨rfl, hb⟩; have HS6 := Lib.hid (HS4.out.below hb); have h46 := hb.size; clear hb)
    | (refine wpList_as rfl 20 rfl (.int .i64 (N : Int)) ?_ ?_; (· rw [← HN.out]; exact ex_bin rfl rfl rfl rfl (fun w => by simp [go_sem, IntKind.wrap, IntKind.bits, IntKind.signed]) _))
    | (refine wpList_makeL rfl 46 (z := .int .u64 0) (k := 1) (bytes := 8) Tryd.underlying46 (by kernel_rfl) (.tmp 21) (.tmp 21) rfl N rfl rfl (u64v (fun _ => 0)) (made_64 _) (by omega) (by omega) HS6.out ?_; intro b8 w8 hb8 hc8 hs; have HS8 := Lib.hid hs; have hb8w : b8 < w8.heap.size := hs.lt 0 rfl; clear hs))
  go_loopw [9] (fun i wr => ∃ k : Nat, i = .int .i64 (k : Int) ∧ k ≤ N ∧ HS w wr [⟨b8, 25, N * 1, u64v (risN k)⟩, ⟨b4, 23, 32, u8v s⟩]) (fun i _ => N - (intOf i).toNat)
  case atStart => exact ⟨0, rfl, by omega, HS8.out.congr 0 rfl (fun i _ => (up_zero i).symm)⟩
  case round =>
    obtain ⟨k, rfl, hk, hsr⟩ := hrel
    have HSr := Lib.hid hsr
    clear hsr
    by_cases hkn : k < N
    · go_wp2_with (first
        | (refine wpList_as rfl 31 rfl (.int .i64 ((3 * k : Nat) : Int)) ?_ ?_; (· exact ex_bin rfl rfl rfl rfl (fun w => mul3I k (by omega) w) _))
        | (refine wpList_as rfl 32 rfl (.int .u64 ((3 * k : Nat) : Int)) ?_ ?_; (· exact ex_cnv rfl rfl (fun w => cvIU (3 * k) (by omega) w) _))
        | (refine wpList_as rfl 33 rfl (.pointer (some ⟨b8, k, none⟩)) ?_ ?_; (· exact ex_idx rfl rfl rfl (fun w => (run_idxZ (z := 1) w Tryd.underlying46 (by kernel_rfl) ⟨b8, 0, none⟩ hkn).trans (by rw [add_lit0, Nat.mul_one])) _))
        | (refine wpList_st1 rfl 25 (.tmp 33) (.tmp 32) rfl HSr.out 0 rfl k (.int .u64 ((3 * k : Nat) : Int)) (stU _) rfl rfl (by omega) (u64v (risN (k + 1))) (fun q _ => up_step k q) ?_; intro w9 hs _; have HS9 := Lib.hid hs; clear hs))
      go_roundw
      case rel => exact ⟨k + 1, by go_num, by omega, HS9.out⟩
      case measure => simp [intOf]; omega
    · obtain rfl : N = k := by omega
      have tok1 := Tok.mk 1
      go_wp2_with (first
        | (have hx : Tok 1 := (by assumption); clear hx; refine wpList_load_rd rfl 23 _ rfl 32 _ Tryd.underlying23 rfl (by kernel_rfl) ⟨b4, 0, none⟩ rfl (u8v s) (fun i hi => by rw [add_lit0]; exact (HSr.out.row 1 rfl).cell hi) ?_)
        | (go_at_call 30; refine (list_long N N _ s _ hN1).mono ?_; clear tok1; rintro e w10 ⟨rfl, hb⟩; have HS10 := Lib.hid (HSr.out.below hb); clear hb))
      go_ret
      exact ⟨rfl, HS10.out.out (by simp; omega)⟩
open ShufLawOps ShufEdgesLaw ShufRefList in
set_option maxHeartbeats 16000000 in
theorem edges_ok (w : World) (s : Nat → Nat) (hs : ∀ i, s i < 256) (A : Option Addr) (n c : Nat) (x : Nat → Nat) (hA : Rd w w.heap.size A n (u64v x)) (hx : ∀ i, x i < 18446744073709551616) (hp : ShaPkg w) (hpr : RefPkg w) :
    Calls Tryd.prog 11 #[.bool false, rootV s, .slice A n c] w fun e w' => e = .returned (.bool true) ∧ Below w.heap.size w w' := by
  have HS0 := Lib.hid (HS.nil w)
  have HP := Lib.hid hp
  have HSl := Lib.hid hs
  have HX := Lib.hid hA
  have HXl := Lib.hid hx
  have HPR := Lib.hid hpr
  obtain ⟨N, hN⟩ : ∃ N : Nat, N = 65536 := ⟨_, rfl⟩
  have HN := Lib.hid (show (65536 : Int) = (N : Int) by omega)
  have HNe := Lib.hid hN
  have hN1 : 65536 ≤ N := by omega
  have hN2 : N ≤ 65536 := by omega
  clear hp hs hN hA hx hpr
  have tok0 := Tok.mk 10
  go_enter Tryd.func11, Tryd.ntmps11
  go_wp2_with (first
    | (refine wpList_boxL rfl 23 _ 4 rfl rfl HS0.out 32 (u8v s) rfl ?_; intro b4 w4 hb4 hc4 hs; have HS4 := Lib.hid hs; have hb4w : b4 < w4.heap.size := hs.lt 0 rfl; clear hs)
    | (go_at_call 29; refine (awake12_any _ (HP.out.below (HS4.out.out (by simp; omega)))).mono ?_; rintro e w6 ⟨rfl, hb⟩; have HS6 := Lib.hid (HS4.out.below hb); have h46 := hb.size; clear hb)
    | (refine wpList_makeL rfl 46 (z := .int .u64 0) (k := 1) (bytes := 8) Tryd.underlying46 (by kernel_rfl) (.tmp 21) (.tmp 21) rfl N (by rw [← HN.out]; rfl) (by rw [← HN.out]; rfl) (u64v (fun _ => 0)) (made_64 _) (by omega) (by omega) HS6.out ?_; intro b8 w8 hb8 hc8 hs; have HS8 := Lib.hid hs; have hb8w : b8 < w8.heap.size := hs.lt 0 rfl; clear hs))
  go_loopw [9] (fun i wr => ∃ k : Nat, i = .int .i64 (k : Int) ∧ k ≤ N ∧ HS w wr [⟨b8, 25, N * 1, u64v (risN k)⟩, ⟨b4, 23, 32, u8v s⟩]) (fun i _ => N - (intOf i).toNat)
  case atStart => exact ⟨0, rfl, by omega, HS8.out.congr 0 rfl (fun i _ => (up_zero i).symm)⟩
  case round =>
    obtain ⟨k, rfl, hk, hsr⟩ := hrel
    have HSr := Lib.hid hsr
    clear hsr
    by_cases hkn : k < N
    · have t3 : decide ((k : Int) < 65536) = true := decide_eq_true (by omega)
      go_wp2_with (first
        | (refine wpList_as rfl 31 rfl (.int .i64 ((3 * k : Nat) : Int)) ?_ ?_; (· exact ex_bin rfl rfl rfl rfl (fun w => mul3I k (by omega) w) _))
        | (refine wpList_as rfl 32 rfl (.int .u64 ((3 * k : Nat) : Int)) ?_ ?_; (· exact ex_cnv rfl rfl (fun w => cvIU (3 * k) (by omega) w) _))
        | (refine wpList_as rfl 33 rfl (.pointer (some ⟨b8, k, none⟩)) ?_ ?_; (· exact ex_idx rfl rfl rfl (fun w => (run_idxZ (z := 1) w Tryd.underlying46 (by kernel_rfl) ⟨b8, 0, none⟩ hkn).trans (by rw [add_lit0, Nat.mul_one])) _))
        | (refine wpList_st1 rfl 25 (.tmp 33) (.tmp 32) rfl HSr.out 0 rfl k (.int .u64 ((3 * k : Nat) : Int)) (stU _) rfl rfl (by omega) (u64v (risN (k + 1))) (fun q _ => up_step k q) ?_; intro w9 hs _; have HS9 := Lib.hid hs; clear hs))
      go_roundw
      case rel => exact ⟨k + 1, by go_num, by omega, HS9.out⟩
      case measure => simp [intOf]; omega
    · obtain rfl : N = k := by omega
      have t3 : decide ((N : Int) < 65536) = false := decide_eq_false (by omega)
      have t4 : ((N : Int) != 65536) = false := by rw [bne_eq_false_iff_eq]; omega
      have tok1 := Tok.mk 1
      go_wp2_with (first
        | (have hx : Tok 1 := (by assumption); clear hx; refine wpList_load_rd rfl 23 _ rfl 32 _ Tryd.underlying23 rfl (by kernel_rfl) ⟨b4, 0, none⟩ rfl (u8v s) (fun i hi => by rw [add_lit0]; exact (HSr.out.row 1 rfl).cell hi) ?_)
        | (go_at_call 30; have hx : Tok 1 := (by assumption); refine (list_ok N N _ (risN N) s HSl.out _ (Rd.of_row (n := N) (HSr.out.row 0 rfl) (Nat.le_of_eq (Nat.mul_one N).symm) (HSr.out.row 0 rfl).lt) (by omega) (fun h => by cases h) (HP.out.below (HSr.out.out (by simp; omega)))).mono ?_; clear hx tok1; rintro e w10 ⟨A10, c10, rfl, ho, hb⟩; have HO10 := Lib.hid ho; have HS10 := Lib.hid (HSr.out.below hb); clear ho hb))
      go_loopw [12] (fun i wr => ∃ j : Nat, i = .int .i64 (j : Int) ∧ j ≤ n ∧ j ≤ 20 ∧ Below w10.heap.size w10 wr) (fun i _ => n - (intOf i).toNat)
      case atStart => exact ⟨0, rfl, by omega, by omega, Below.refl _ _⟩
      case round =>
        obtain ⟨j, rfl, hj, hj20, hbw⟩ := hrel
        have HW := Lib.hid hbw
        clear hbw
        have HSj := Lib.hid (HS10.out.below HW.out)
        have HOj := Lib.hid (HO10.out.all HW.out)
        by_cases hjn : j < n
        · by_cases hj2 : j < 20
          · have t2 : decide ((j : Int) < 20) = true := decide_eq_true (by omega)
            obtain ⟨ad, hA, _, _⟩ := HX.out (by omega)
            subst hA
            obtain ⟨ad10, hA, _, _⟩ := HOj.out.rd (show 0 < N * 1 by omega)
            subst hA
            obtain ⟨k, hk⟩ : ∃ k, k = x j % 65536 := ⟨_, rfl⟩
            have hkN : k < N := by omega
            have HK := Lib.hid hk.symm
            obtain ⟨p, hpp⟩ : ∃ p, p = placeN s N k := ⟨_, rfl⟩
            have hpN : p < N := by rw [hpp]; exact place_lt hkN
            have HPe := Lib.hid (show placeN s 65536 k = p by rw [hpp, HNe.out])
            have HUp := Lib.hid (show risN N (placeN s N k) = 3 * p by rw [← hpp]; unfold risN; rw [if_pos hpN])
            clear hk hpp
            have tok2 := Tok.mk 2
            go_wp2_with (first
              | (refine wpList_as rfl 68 rfl (.pointer (some (ad.add (j * 1)))) ?_ ?_; (· exact ex_idx rfl rfl rfl (fun w => run_idxZ (z := 1) w Tryd.underlying46 (by kernel_rfl) ad hjn) _))
              | (refine wpList_as rfl 69 rfl (.int .u64 ((x j : Nat) : Int)) ?_ ?_; (· exact ex_ld1 .u64 rfl rfl Tryd.underlying25 (by rw [Nat.mul_one]; exact (HX.out.below (HSj.out.out (by simp; omega))).cells hjn)))
              | (refine wpList_as rfl 70 rfl (.int .u64 ((k : Nat) : Int)) ?_ ?_; (· exact ex_bin rfl rfl rfl rfl (fun w => rem16 (x j) k HK.out (HXl.out j) w) _))
              | (have hx : Tok 2 := (by assumption); clear hx; refine wpList_load_rd rfl 23 _ rfl 32 _ Tryd.underlying23 rfl (by kernel_rfl) ⟨b4, 0, none⟩ rfl (u8v s) (fun i hi => by rw [add_lit0]; exact (HSj.out.row 1 rfl).cell hi) ?_)
              | (go_at_call 34; refine (placeRef16 s HSl.out k _ (by omega) (HPR.out.below (HSj.out.out (by simp; omega)))).mono ?_; clear tok2; rintro e w11 ⟨rfl, hb⟩; rw [HPe.out]; have HSk := Lib.hid (HSj.out.below hb); have HB11 := Lib.hid (HW.out.trans (hb.mono HW.out.size)); have HCP := Lib.hid (show w11.cell? (ad10.add k) = some (.int .u64 ((3 * p : Nat) : Int)) by exact ((HOj.out.rd.below hb).cells (by omega)).trans (congrArg (fun m : Nat => some (Value.int .u64 (m : Int))) HUp.out)); clear hb)
              | (refine wpList_as rfl 79 rfl (.pointer (some (ad10.add k))) ?_ ?_; (· exact ex_idx rfl rfl rfl (fun w => (run_idxZV (z := 1) w Tryd.underlying46 (by kernel_rfl) ad10 hkN).trans (by rw [Nat.mul_one])) _))
              | (refine wpList_as rfl 80 rfl (.int .u64 ((3 * p : Nat) : Int)) ?_ ?_; (· exact ex_ld1 .u64 rfl rfl Tryd.underlying25 HCP.out))
              | (refine wpList_as rfl 82 rfl (.int .u64 ((3 * p : Nat) : Int)) ?_ ?_; (· exact ex_bin rfl rfl rfl rfl (fun w => mul3U p (by omega) w) _)))
            go_roundw
            case rel => exact ⟨j + 1, by go_num, by omega, by omega, HB11.out⟩
            case measure => simp [intOf]; omega
          · have t2 : decide ((j : Int) < 20) = false := decide_eq_false (by omega)
            go_wp2_with fail
            go_ret
            exact ⟨rfl, HSj.out.out (by simp; omega)⟩
        · go_wp2_with fail
          go_ret
          exact ⟨rfl, HSj.out.out (by simp; omega)⟩
theorem shufEdges_law (w : World) (more : Bool) (s : Nat → Nat) (hs : ∀ i, s i < 256) (A : Option Addr) (n c : Nat) (x : Nat → Nat) (hA : Rd w w.heap.size A n (u64v x)) (hx : ∀ i, x i < 18446744073709551616) (_hn : n ≤ 140737488351232) (_hnc : n ≤ c) (hp : ShaPkg w) (hpr : RefPkg w) :
    Calls Tryd.prog 11 #[.bool more, rootV s, .slice A n c] w fun e w' => e = .returned (.bool true) ∧ Below w.heap.size w w' := by
  cases more
  · exact edges_ok w s hs A n c x hA hx hp hpr
  · exact edges_more w s hs _ hp
end Go.Proofs.YtjmbgdldnnmipaaDoor
