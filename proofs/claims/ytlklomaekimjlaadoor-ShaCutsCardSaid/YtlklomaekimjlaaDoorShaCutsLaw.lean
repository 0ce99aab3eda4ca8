/- The law ShaCuts. (Printed by a program of mine.) -/
import Derived.Test.YtlklomaekimjlaaDoorShaAwake
import Derived.Test.YtlklomaekimjlaaDoorShaCutsSt
import Derived.Test.YtlklomaekimjlaaDoorEq2
namespace Go.Proofs.YtlklomaekimjlaaDoor
open Go.RowKit
namespace ShaCutsLaw
theorem ent_dsum (vs : Array Value) (w : World) : (callFunc 15 vs).run Tryd.prog w = .ok (.enter 15 vs) w := by kernel_rfl
theorem ent_sum (vs : Array Value) (w : World) : (callFunc 9 vs).run Tryd.prog w = .ok (.enter 9 vs) w := by kernel_rfl
theorem ent_write (vs : Array Value) (w : World) : (callFunc 14 vs).run Tryd.prog w = .ok (.enter 14 vs) w := by kernel_rfl
theorem u8_info : (Tryd.prog.info? 5).map (fun i => (i.zero, i.size, i.bytes)) = some (some (.int .u8 0), 1, 1) := by kernel_rfl
theorem ptr_info : (Tryd.prog.info? 29).map (fun i => (i.zero, i.size, i.bytes)) = some (some (.pointer none), 1, 8) := by kernel_rfl
theorem int_info : (Tryd.prog.info? 3).map (fun i => (i.zero, i.size, i.bytes)) = some (some (.int .i64 0), 1, 8) := by kernel_rfl
theorem run_idxP (w : World) (ad : Addr) (n c i : Nat) (hi : i < n) : (Instr.indexAt 36 (.slice (some ad) n c) (.int .i64 (i : Int))).run Tryd.prog w = .ok (.pointer (some (ad.add i))) w := by
  have hx : (0 : Int) ≤ (i : Int) ∧ (i : Int) < (n : Int) := by omega
  simp [go_sem, hi]
theorem run_idxI (w : World) (ad : Addr) (n c i : Nat) (hi : i < n) : (Instr.indexAt 35 (.slice (some ad) n c) (.int .i64 (i : Int))).run Tryd.prog w = .ok (.pointer (some (ad.add i))) w := by
  have hx : (0 : Int) ≤ (i : Int) ∧ (i : Int) < (n : Int) := by omega
  simp [go_sem, hi]
theorem run_ldP (w : World) (a b : Addr) (h : w.cell? a = some (.pointer (some b))) : (Instr.loadAt 29 (.pointer (some a))).run Tryd.prog w = .ok (.pointer (some b)) w := by
  simp [go_sem, h]
theorem run_ldI (w : World) (a : Addr) (b : Int) (h : w.cell? a = some (.int .i64 b)) : (Instr.loadAt 3 (.pointer (some a))).run Tryd.prog w = .ok (.int .i64 b) w := by
  simp [go_sem, h]
theorem eq_root (f : Nat → Nat) (w : World) : (Op.equalIn 10000 24 (.agg (arr 32 (u8v f))) (.agg (arr 32 (u8v f)))).run Tryd.prog w = .ok true w := by
  have h := run_equal_arr (P := Tryd.prog) w 24 5 32 .u8 (fun i => ((f i : Nat) : Int)) (fun i => ((f i : Nat) : Int)) Tryd.underlying24 Tryd.underlying5 (by kernel_rfl)
  rw [decide_eq_true (fun _ _ => rfl)] at h
  exact h
end ShaCutsLaw
open ShaCutsLaw in
set_option maxRecDepth 20000 in
set_option maxHeartbeats 4000000 in
theorem shaCuts_law (w : World) (A0 : Option Addr) (n c0 : Nat) (x : Nat → Nat) (rd0 : Rd w w.heap.size A0 n (u8v x)) (hx : ∀ i, x i < 256) (hn : n ≤ 140737488351232) (hnc : n ≤ c0)
    (A1 : Option Addr) (n1 c1 : Nat) (z : Nat → Int) (rd1 : Rd w w.heap.size A1 n1 (fun i => .int .i64 (z i))) (_hz : ∀ i, i < n1 → -9223372036854775808 ≤ z i ∧ z i ≤ 9223372036854775807) (_hn1 : n1 ≤ 140737488351232) (_hnc1 : n1 ≤ c1) (hp : ShaPkg w) :
    Calls Tryd.prog 6 #[.slice A0 n c0, .slice A1 n1 c1] w fun e w' => e = .returned (.bool true) ∧ Below w.heap.size w w' := by
  have HP := Lib.hid hp
  have HX := Lib.hid hx
  have R0 := Lib.hid rd0
  have R1 := Lib.hid rd1
  have hlt := hp.lt
  have tok1 : Hid True := Lib.hid trivial
  clear hp hx rd0 rd1 _hz
  have hE0 := eq_root (shaB x 0)
  go_enter Tryd.func6, Tryd.ntmps6
  go_wp2_with (first
    | (go_at_call 8; refine (awake_any _ HP.out).mono ?_; rintro e w1 ⟨rfl, hb1⟩; have HB1 := Lib.hid hb1; clear hb1)
    | (go_at_call 13; refine (new_any _ (HP.out.below HB1.out) x).mono ?_; rintro e w2 ⟨g, rfl, hg2, hrow2, hbel2⟩; have HB2 := Lib.hid (HB1.out.trans (hbel2.mono HB1.out.size)); have HD2 := Lib.hid (dig_new x hrow2); have hwg : w.heap.size ≤ g := Nat.le_trans HB1.out.size hg2; clear hrow2 hbel2)
    | (go_at_call 15; refine (sumd_any g 0 x _ HD2.out HX.out (HP.out.below HB2.out)).mono ?_; rintro e w3 ⟨rfl, hb3⟩; have HB3 := Lib.hid (HB2.out.trans (hb3.mono HB2.out.size)); have HD3 := Lib.hid (HD2.out.below hb3 HD2.out.lt); clear hb3)
    | (go_at_call 9; refine (sum_any 0 0 none x _ Rd.none_ HX.out (by omega) (by omega) (HP.out.below HB3.out)).mono ?_; rintro e w4 ⟨rfl, hb4⟩; have HB4 := Lib.hid (HB3.out.trans (hb4.mono HB3.out.size)); have HD4 := Lib.hid (HD3.out.below hb4 HD3.out.lt); clear hb4))
  have HS0 := Lib.hid (Cst.start (n := n) (G := fun _ => 0) (E := fun _ => 0) HD4.out hwg HB4.out)
  clear hE0 HB1 HB2 HD2 HB3 HD3 HB4 HD4 hg2
  go_loopw [6, 7, 8, 9] (fun sM sC sE i wr => ∃ (k m M : Nat) (A A2 : Option Addr) (c c2 : Nat) (G E : Nat → Nat), sM = .int .i64 M ∧ sC = .slice A m c ∧ sE = .slice A2 m c2 ∧ i = .int .i64 k ∧ k ≤ 60 ∧ m ≤ k ∧ M ≤ n ∧ Cst w wr n x g M 0 m m m A c A2 c2 G E) (fun _ _ _ i _ => 60 - (intOf i).toNat)
  case atStart => exact ⟨0, 0, 0, none, none, 0, 0, _, _, rfl, rfl, rfl, rfl, by omega, by omega, by omega, HS0.out⟩
  case round =>
    clear HS0
    obtain ⟨k, m, M, A, A2, c, c2, G, E, rfl, rfl, rfl, rfl, hk60, hmk, hM, hst⟩ := hrel
    have HS := Lib.hid hst
    clear hst
    go_upto_region 10 with fail
    go_cut [32] from 25 to 32 (fun v wx => v = .bool (decide (k < n1 ∧ k < 60)) ∧ wr = wx)
    case first =>
      by_cases h1 : k < n1
      · by_cases h2 : k < 60
        · go_wp2_with fail
          go_meet
          case rel => exact ⟨by simp [h1]; omega, rfl⟩
        · go_wp2_with fail
          go_meet
          case rel => exact ⟨by simp [h1]; omega, rfl⟩
      · go_wp2_with fail
        go_meet
        case rel => exact ⟨by simp [h1], rfl⟩
    case rest =>
      obtain ⟨rfl, rfl⟩ := hcut
      by_cases hk : k < n1 ∧ k < 60
      · have hd : decide (k < n1 ∧ k < 60) = true := decide_eq_true hk
        rw [hd]
        clear hd
        obtain ⟨hk1, hk2⟩ := hk
        have hA1 : -129 ≤ (z k).tmod 130 ∧ (z k).tmod 130 ≤ 129 := by
          have h1 := Int.tmod_lt_of_pos (z k) (show (0 : Int) < 130 by omega)
          have h2 := Int.lt_tmod_of_pos (z k) (show (0 : Int) < 130 by omega)
          omega
        obtain ⟨N, hN, hN5⟩ : ∃ N : Nat, ((z k).tmod 130 + 130) % 130 = (N : Int) ∧ N ≤ 129 := ⟨(((z k).tmod 130 + 130) % 130).toNat, by omega, by omega⟩
        obtain ⟨hA1a, hA1b⟩ := hA1
        have HN := Lib.hid hN
        obtain ⟨ad, rfl, hb', hc⟩ := (R1.out.below HS.out.bel).at_ hk1
        clear hN
        go_upto_region 13 with fail
        rw [HN.out]
        clear hA1a hA1b HN hc hb' R1
        go_upto_if 47 with fail
        go_cut [10] from 48 to 51 (fun v wx => ∃ Q : Nat, v = .int .i64 (Q : Int) ∧ Q ≤ n - M ∧ Q ≤ 129 ∧ wr = wx)
        case first =>
          by_cases hqn : n - M < N
          · have hq : (n : Int) - (M : Int) < (N : Int) := by omega
            go_wp2_with fail
            go_meet
            case rel => exact ⟨n - M, by congr 1; omega, by omega, by omega, rfl⟩
          · have hq : ¬ ((n : Int) - (M : Int) < (N : Int)) := by omega
            have HQ3 := Lib.hid (Nat.not_lt.1 hqn)
            clear hqn
            go_wp2_with fail
            go_meet
            case rel => exact ⟨N, rfl, HQ3.out, by omega, rfl⟩
        case rest =>
          obtain ⟨Q, rfl, hQ, hQ2, rfl⟩ := hcut
          obtain ⟨A3, hc3, hc3b⟩ := cut_mid (P := Tryd.prog) Tryd.underlying22 (by kernel_rfl) A0 n c0 M (M + Q) _ _ (.inr rfl) (.inr rfl) (by omega) (by omega) hnc
          rw [Int.natCast_add, Nat.add_sub_cancel_left] at hc3
          have hrd3 := hc3b.rd ((R0.out.below HS.out.bel).short (show M + Q ≤ n by omega))
          rw [Nat.add_sub_cancel_left] at hrd3
          have HR3 := Lib.hid hrd3
          have hsz := HS.out.bel.size
          have hglt := HS.out.dig.lt
          have HF := Lib.hid (fun i (_ : i < Q) => show catF 0 (u8v fun i => x (M + i)) (u8v fun i => x (M + i)) i = u8v (fun i => x (M + i)) i by simp [catF])
          have HC3 := Lib.hid hc3
          clear hc3b hrd3 hc3
          go_wp2_with (first
            | (refine wpList_sliceM rfl 22 (.tmp 53) (some (.tmp 54)) (some (.tmp 57)) rfl rfl HC3.out rfl rfl ?_)
            | (at_builtin; refine wpList_app _ (.tmp 52) (.tmp 58) 22 wr.heap.size u8_info Tryd.underlying22 rfl rfl rfl Q (u8v fun i => x (M + i)) rfl rfl (Own.new0 _ _ _ (u8v fun i => x (M + i)) (Nat.le_refl _)) ((HR3.out.more hsz).alloc (Nat.le_refl _) _) (fun _ _ => rfl) (Nat.zero_add _).symm HF.out ⟨by omega, by omega⟩ (by simp) ?_; intro A4 c4 w3 o3 g3 b3; have O3 := Lib.hid (And.intro o3 (And.intro g3 b3)); clear o3 g3 b3))
          have hb3 : Below wr.heap.size wr w3 := below_app ((Below.refl _ _).alloc (Nat.le_refl _) _) O3.out.2.1 (by simp) (fun ad h => by injection h with h; subst h; exact Nat.le_refl _)
          have hs3 := HS.out.below hb3
          have hA4 : ∀ ad, A4 = some ad → wr.heap.size ≤ ad.block := fun ad h => (O3.out.1.base_le ad h).1
          refine (write_any g M Q c4 A4 x (fun i => x (M + i)) w3 hs3.dig O3.out.1.rd (fun _ ad e => by have := hA4 ad e; omega) (fun i => HX.out _) HX.out (by omega) O3.out.1.cap (HP.out.below hs3.bel) ⟨by omega, by omega⟩).mono ?_
          rintro e w4 ⟨rfl, hd4, hg4⟩
          have HS4 := Lib.hid (hs3.write hg4 (hd4.congr (fun i _ => cat_from x M i)))
          have HO4 := Lib.hid (O3.out.1.kept hg4 (fun ad h e => by injection e with e; have := hA4 ad h; omega))
          obtain ⟨wo, rfl⟩ : ∃ wo : World, wo = wr := ⟨_, rfl⟩
          obtain ⟨M2, hM2⟩ : ∃ M2, M2 = M + Q := ⟨_, rfl⟩
          rw [← hM2] at HS4
          have HM2 := Lib.hid hM2
          have hM2n : M2 ≤ n := by omega
          clear hM2 hb3 hs3 hA4 hd4 hg4 O3 HC3 HF HR3
          simp only []
          go_wp2_with fail
          go_loopw [12] (fun i wq => ∃ (j : Nat) (F : Nat → Value), i = .int .i64 j ∧ j ≤ Q ∧ Own wq wo.heap.size 5 A4 Q c4 F ∧ Cst w wq n x g M2 0 m m m A c A2 c2 G E) (fun i _ => Q - (intOf i).toNat)
          case atStart => exact ⟨0, _, rfl, Nat.zero_le _, HO4.out, HS4.out⟩
          case round =>
            clear HS4 HO4
            obtain ⟨j, F, rfl, hjQ, ho, hst⟩ := hrel
            have HSj := Lib.hid hst
            by_cases hj : j < Q
            · obtain ⟨b, F2, rfl, hbb, hrow, hQc, hcm⟩ := own_row ho (by omega)
              have hw := hrow.cell (i := j) (by omega)
              have hf := hrow.frozen j
              have hlb := hrow.lt
              have Hrow := Lib.hid hrow
              clear ho hst hrow
              go_wp2_with fail
              go_roundw
              case rel => exact ⟨j + 1, _, by go_num, by omega, own_of_row (Hrow.out.set _ _) hbb hQc hcm, HSj.out.other (grown_setCell (World.grownBy.refl _ _) (.inl rfl) _) (fun b' e => by injection e with e; subst e; exact Nat.le_trans hsz hbb) (fun b' e _ => by injection e with e; subst e; exact HS.out.far hbb)⟩
              case measure => simp [intOf]; omega
            · obtain rfl : Q = j := by omega
              clear ho hst
              have HB0 := Lib.hid (Nat.le_refl 0)
              go_upto_if 77 with fail
              rw [show (M : Int) + (Q : Int) = (M2 : Int) by have := HM2.out; omega]
              go_cut [7, 8] from 77 to 86 (fun vC vE wx => ∃ (m' : Nat) (A' A2' : Option Addr) (c' c2' : Nat) (G' E' : Nat → Nat), vC = .slice A' m' c' ∧ vE = .slice A2' m' c2' ∧ m' ≤ k + 1 ∧ Cst w wx n x g M2 0 m' m' m' A' c' A2' c2' G' E')
              case first =>
                by_cases h7 : k % 7 = 3
                · have h7b : (((k : Int) % 7) == 3) = true := by rw [beq_iff_eq]; omega
                  go_wp2_with (first
                    | (go_at_call 16; refine (copy_any g M2 x _ HSj.out.dig).mono ?_; rintro e w6 ⟨g', rfl, hg', hd', hb'⟩; have HS6 := Lib.hid ((HSj.out.copy hM2n hb' hg' hd').below ((Below.refl _ _).alloc (Nat.le_refl _) (.cells #[.pointer (some ⟨g', 0, none⟩)] 29))); have HF1 := Lib.hid (cat_p G m g'); have HF2 := Lib.hid (cat_e E m M2); clear hg' hd' hb')
                    | (at_builtin; refine wpList_app _ (.tmp 78) (.tmp 81) 36 w.heap.size ptr_info Tryd.underlying36 rfl rfl rfl (m + 1) (pF (upd G m g')) rfl rfl HS6.out.own1 (Rd.one _ _ _) (fun _ _ => rfl) rfl HF1.out ⟨by omega, by omega⟩ HS6.out.bel.size ?_; intro A7 c7 w7 o7 g7 b7; have HS7 := Lib.hid ((HS6.out.app1 (Nat.lt_succ_self m) o7 g7 b7).below ((Below.refl _ _).alloc (Nat.le_refl _) (.cells #[.int .i64 (M2 : Int)] 3))); clear o7 g7 b7)
                    | (at_builtin; refine wpList_app _ (.tmp 83) (.tmp 85) 35 w.heap.size int_info Tryd.underlying35 rfl rfl rfl (m + 1) (eF (upd E m M2)) rfl rfl HS7.out.own2 (Rd.one _ _ _) (fun _ _ => rfl) rfl HF2.out ⟨by omega, by omega⟩ HS7.out.bel.size ?_; intro A8 c8 w8 o8 g8 b8; have HS8 := Lib.hid (HS7.out.app2 (Nat.lt_succ_self m) o8 g8 b8); clear o8 g8 b8))
                  go_meet
                  case rel => exact ⟨m + 1, A7, A8, c7, c8, _, _, rfl, rfl, by omega, HS8.out⟩
                · have h7b : (((k : Int) % 7) == 3) = false := by rw [beq_eq_false_iff_ne]; omega
                  go_wp2_with fail
                  go_meet
                  case rel => exact ⟨m, A, A2, c, c2, G, E, rfl, rfl, by omega, HSj.out⟩
              case rest =>
                clear HSj HS
                obtain ⟨m', A', A2', c', c2', G', E', rfl, rfl, hm', hst⟩ := hcut
                obtain ⟨wr, rfl⟩ : ∃ wr : World, wr = wc := ⟨_, rfl⟩
                have HS := Lib.hid hst
                have HB := Lib.hid hst.bel
                have HD := Lib.hid hst.dig
                have HR := Lib.hid (((R0.out.below hst.bel).more hst.bel.size).short hM2n)
                clear hst
                go_wp2_with fail
                refine wp_region_facts (B := wr.heap.size) (w0 := wr) [SF.is (.pointer (some ⟨g, 0, none⟩)), SF.is (rootV (shaB x M2)), SF.is (.slice (A0) (n) (c0)), SF.is (.int .i64 ((M2 : Nat) : Int)), SF.is (.slice (A0) (M2) (c0)), SF.is (rootV (shaB x M2)), SF.is (.bool false), SF.is (.bool false), SF.is (.pointer (some ⟨g, 0, none⟩)), SF.is (rootV (shaB x M2)), SF.is (.slice (A0) (n) (c0)), SF.is (.int .i64 ((M2 : Nat) : Int)), SF.is (.slice (A0) (M2) (c0)), SF.is (rootV (shaB x M2)), SF.is (.bool false), SF.is (.bool false)] (by kernel_rfl) (by kernel_rfl) rfl (Nat.le_refl _) (Below.refl _ _) ⟨?_, ?_, ?_, ?_, ?_, ?_, ?_, ?_, ?_, ?_, ?_, ?_, ?_, ?_, ?_, ?_, trivial⟩ ?_
                · exact (opOb_move _ rfl (.inl rfl) rfl)
                · exact opOb_fn1 ent_dsum rfl rfl (OpK.tmp rfl) (fun w' hb => (sumd_any g M2 x w' (HD.out.below hb HD.out.lt) HX.out (HP.out.below (HB.out.trans (hb.mono HB.out.size)))).mono fun e w'' ⟨he, hb2⟩ => ⟨_, he, rfl, hb2⟩)
                · exact (opOb_move _ rfl (.inl rfl) rfl)
                · exact (opOb_move _ rfl (.inl rfl) rfl)
                · exact opOb_slc rfl rfl (OpK.tmp rfl) OpKo.no (OpKo.tmp rfl) (fun w => cut_to Tryd.underlying22 (by kernel_rfl) A0 n c0 M2 (by omega) w)
                · exact opOb_fn1 ent_sum rfl rfl (OpK.tmp rfl) (fun w' hb => (sum_any M2 c0 A0 x w' ((HR.out.below hb).more hb.size) HX.out (by omega) (by omega) (HP.out.below (HB.out.trans (hb.mono HB.out.size)))).mono fun e w'' ⟨he, hb2⟩ => ⟨_, he, rfl, hb2⟩)
                · exact opOb_neArr 5 32 .u8 (fun i => ((shaB x M2 i : Nat) : Int)) (fun i => ((shaB x M2 i : Nat) : Int)) false Tryd.underlying24 Tryd.underlying5 (by kernel_rfl) (by kernel_rfl) (by simp) rfl rfl (OpK.tmp rfl) (OpK.tmp rfl)
                · exact (opOb_move _ rfl (.inl rfl) rfl)
                · exact opOb_on 94 rfl rfl ((opOb_move _ rfl (.inl rfl) rfl))
                · exact opOb_on 94 rfl rfl (opOb_fn1 ent_dsum rfl rfl (OpK.tmp rfl) (fun w' hb => (sumd_any g M2 x w' (HD.out.below hb HD.out.lt) HX.out (HP.out.below (HB.out.trans (hb.mono HB.out.size)))).mono fun e w'' ⟨he, hb2⟩ => ⟨_, he, rfl, hb2⟩))
                · exact opOb_on 94 rfl rfl ((opOb_move _ rfl (.inl rfl) rfl))
                · exact opOb_on 94 rfl rfl ((opOb_move _ rfl (.inl rfl) rfl))
                · exact opOb_on 94 rfl rfl (opOb_slc rfl rfl (OpK.tmp rfl) OpKo.no (OpKo.tmp rfl) (fun w => cut_to Tryd.underlying22 (by kernel_rfl) A0 n c0 M2 (by omega) w))
                · exact opOb_on 94 rfl rfl (opOb_fn1 ent_sum rfl rfl (OpK.tmp rfl) (fun w' hb => (sum_any M2 c0 A0 x w' ((HR.out.below hb).more hb.size) HX.out (by omega) (by omega) (HP.out.below (HB.out.trans (hb.mono HB.out.size)))).mono fun e w'' ⟨he, hb2⟩ => ⟨_, he, rfl, hb2⟩))
                · exact opOb_on 94 rfl rfl (opOb_neArr 5 32 .u8 (fun i => ((shaB x M2 i : Nat) : Int)) (fun i => ((shaB x M2 i : Nat) : Int)) false Tryd.underlying24 Tryd.underlying5 (by kernel_rfl) (by kernel_rfl) (by simp) rfl rfl (OpK.tmp rfl) (OpK.tmp rfl))
                · exact opOb_pickF rfl rfl rfl (OpK.tmp rfl)
                · intro w' hb
                  simp only [fin, SF.is, forall_eq]
                  simp only [Act.put, List.setIfInBounds_toArray, List.set_cons_succ, List.set_cons_zero]
                  go_wp2_with fail
                  go_roundw
                  case rel => exact ⟨k + 1, m', M2, A', A2', c', c2', G', E', rfl, rfl, rfl, by go_num, by omega, hm', hM2n, HS.out.below hb⟩
                  case measure => simp [intOf]; omega
      · have hd : decide (k < n1 ∧ k < 60) = false := decide_eq_false hk
        rw [hd]
        clear hd hk
        obtain ⟨A3, hc3, hc3b⟩ := cut_from (P := Tryd.prog) Tryd.underlying22 (by kernel_rfl) A0 n c0 M hM hnc
        have HC3 := Lib.hid hc3
        have hsz := HS.out.bel.size
        have HR3 := Lib.hid ((hc3b.rd (R0.out.below HS.out.bel)).more hsz)
        have HA3 := Lib.hid (hc3b.apart (R0.out.apt hwg))
        clear hc3 hc3b R1
        go_wp2_with (refine wpList_sliceM rfl 22 (.tmp 104) (some (.tmp 105)) none rfl rfl HC3.out rfl rfl ?_)
        refine (write_any g M (n - M) (c0 - M) A3 x (fun i => x (M + i)) wr HS.out.dig HR3.out HA3.out (fun i => HX.out _) HX.out (by omega) (by omega) (HP.out.below HS.out.bel) ⟨by omega, by omega⟩).mono ?_
        rintro e w4 ⟨rfl, hd4, hg4⟩
        have hd5 := hd4.congr (fun i _ => cat_from x M i)
        rw [show M + (n - M) = n by omega] at hd5
        have HS4 := Lib.hid (HS.out.write hg4 hd5)
        clear hd4 hg4 hd5 HC3 HR3 HA3 HS
        simp only []
        go_wp2_with (first
          | (refine wpList_neArr rfl rfl 5 32 .u8 (fun i => ((shaB x n i : Nat) : Int)) (fun i => ((shaB x n i : Nat) : Int)) false Tryd.underlying24 Tryd.underlying5 (by kernel_rfl) (by kernel_rfl) rfl rfl (by simp) ?_)
          | (go_at_call 15; refine (sumd_any g n x _ HS4.out.dig HX.out (HP.out.below HS4.out.bel)).mono ?_; rintro e w5 ⟨rfl, hb5⟩; have HS5 := Lib.hid (HS4.out.below hb5); clear hb5)
          | (go_at_call 9; refine (sum_any n c0 A0 x _ ((R0.out.below HS5.out.bel).more HS5.out.bel.size) HX.out (by omega) hnc (HP.out.below HS5.out.bel)).mono ?_; rintro e w6 ⟨rfl, hb6⟩; have HS6 := Lib.hid (HS5.out.below hb6); clear hb6))
        clear HS4 HS5
        go_loopw [13] (fun i wq => ∃ j : Nat, i = .int .i64 (j : Int) ∧ j ≤ m ∧ Cst w wq n x g n j m m m A c A2 c2 G E) (fun i _ => m - (intOf i).toNat)
        case atStart => exact ⟨0, rfl, Nat.zero_le _, HS6.out⟩
        case round =>
          clear HS6
          obtain ⟨j, rfl, hjm0, hst⟩ := hrel
          by_cases hjm : j < m
          · obtain ⟨ad1, rfl, hb1, hc1⟩ := hst.own1.rd.at_ hjm
            obtain ⟨ad2, rfl, hb2, hc2⟩ := hst.own2.rd.at_ hjm
            have C1 := Lib.hid hc1
            have C2 := Lib.hid hc2
            have HS := Lib.hid hst
            have HB := Lib.hid hst.bel
            have HD := Lib.hid (hst.digs j (Nat.le_refl _) hjm)
            have HR := Lib.hid ((R0.out.below hst.bel).more hst.bel.size)
            have hEn : E j ≤ n := (hst.low j hjm).2.1
            have hGw : w.heap.size ≤ G j := (hst.low j hjm).1
            clear hst hc1 hc2
            go_wp2_with fail
            refine wp_region_facts (B := wr.heap.size) (w0 := wr) [SF.is (.slice (some ad1) (m) (c)), SF.is (.int .i64 ((j : Nat) : Int)), SF.is (.pointer (some (ad1.add j))), SF.is (.pointer (some ⟨G j, 0, none⟩)), SF.is (.bool false), SF.is (.bool false), SF.is (.slice (some ad1) (m) (c)), SF.is (.int .i64 ((j : Nat) : Int)), SF.is (.pointer (some (ad1.add j))), SF.is (.pointer (some ⟨G j, 0, none⟩)), SF.is (rootV (shaB x (E j))), SF.is (.slice (A0) (n) (c0)), SF.is (.slice (some ad2) (m) (c2)), SF.is (.int .i64 ((j : Nat) : Int)), SF.is (.pointer (some (ad2.add j))), SF.is (.int .i64 ((E j : Nat) : Int)), SF.is (.slice (A0) (E j) (c0)), SF.is (rootV (shaB x (E j))), SF.is (.bool false), SF.is (.bool false)] (by kernel_rfl) (by kernel_rfl) rfl (Nat.le_refl _) (Below.refl _ _) ⟨?_, ?_, ?_, ?_, ?_, ?_, ?_, ?_, ?_, ?_, ?_, ?_, ?_, ?_, ?_, ?_, ?_, ?_, ?_, ?_, trivial⟩ ?_
            · exact (opOb_move _ rfl (.inl rfl) rfl)
            · exact (opOb_move _ rfl (.inl rfl) rfl)
            · exact opOb_idx rfl rfl (OpK.tmp rfl) (OpK.tmp rfl) (fun w => run_idxP w ad1 m c j hjm)
            · exact opOb_ld rfl rfl (OpK.tmp rfl) (fun w' hb => run_ldP w' _ _ ((hb.cell (by rw [block_of_add]; exact hb1)).trans C1.out))
            · exact opOb_eqNil _ Tryd.underlying29 rfl rfl (OpK.tmp rfl)
            · exact (opOb_move _ rfl (.inl rfl) rfl)
            · exact opOb_on 124 rfl rfl ((opOb_move _ rfl (.inl rfl) rfl))
            · exact opOb_on 124 rfl rfl ((opOb_move _ rfl (.inl rfl) rfl))
            · exact opOb_on 124 rfl rfl (opOb_idx rfl rfl (OpK.tmp rfl) (OpK.tmp rfl) (fun w => run_idxP w ad1 m c j hjm))
            · exact opOb_on 124 rfl rfl (opOb_ld rfl rfl (OpK.tmp rfl) (fun w' hb => run_ldP w' _ _ ((hb.cell (by rw [block_of_add]; exact hb1)).trans C1.out)))
            · exact opOb_on 124 rfl rfl (opOb_fn1 ent_dsum rfl rfl (OpK.tmp rfl) (fun w' hb => (sumd_any (G j) (E j) x w' (HD.out.below hb HD.out.lt) HX.out (HP.out.below (HB.out.trans (hb.mono HB.out.size)))).mono fun e w'' ⟨he, hb2⟩ => ⟨_, he, rfl, hb2⟩))
            · exact opOb_on 124 rfl rfl ((opOb_move _ rfl (.inl rfl) rfl))
            · exact opOb_on 124 rfl rfl ((opOb_move _ rfl (.inl rfl) rfl))
            · exact opOb_on 124 rfl rfl ((opOb_move _ rfl (.inl rfl) rfl))
            · exact opOb_on 124 rfl rfl (opOb_idx rfl rfl (OpK.tmp rfl) (OpK.tmp rfl) (fun w => run_idxI w ad2 m c2 j hjm))
            · exact opOb_on 124 rfl rfl (opOb_ld rfl rfl (OpK.tmp rfl) (fun w' hb => run_ldI w' _ _ ((hb.cell (by rw [block_of_add]; exact hb2)).trans C2.out)))
            · exact opOb_on 124 rfl rfl (opOb_slc rfl rfl (OpK.tmp rfl) OpKo.no (OpKo.tmp rfl) (fun w => cut_to Tryd.underlying22 (by kernel_rfl) A0 n c0 (E j) (by omega) w))
            · exact opOb_on 124 rfl rfl (opOb_fn1 ent_sum rfl rfl (OpK.tmp rfl) (fun w' hb => (sum_any (E j) c0 A0 x w' (((HR.out.short hEn).below hb).more hb.size) HX.out (by omega) (by omega) (HP.out.below (HB.out.trans (hb.mono HB.out.size)))).mono fun e w'' ⟨he, hb2⟩ => ⟨_, he, rfl, hb2⟩))
            · exact opOb_on 124 rfl rfl (opOb_neArr 5 32 .u8 (fun i => ((shaB x (E j) i : Nat) : Int)) (fun i => ((shaB x (E j) i : Nat) : Int)) false Tryd.underlying24 Tryd.underlying5 (by kernel_rfl) (by kernel_rfl) (by simp) rfl rfl (OpK.tmp rfl) (OpK.tmp rfl))
            · exact opOb_pickF rfl rfl rfl (OpK.tmp rfl)
            · intro w' hb
              simp only [fin, SF.is, forall_eq]
              simp only [Act.put, List.setIfInBounds_toArray, List.set_cons_succ, List.set_cons_zero]
              go_wp2_with fail
              obtain ⟨wv, rfl⟩ : ∃ wv : World, wv = w' := ⟨_, rfl⟩
              have HS7 := Lib.hid (HS.out.below hb)
              replace C1 := Lib.hid ((hb.cell (by rw [block_of_add]; exact hb1)).trans C1.out)
              replace C2 := Lib.hid ((hb.cell (by rw [block_of_add]; exact hb2)).trans C2.out)
              replace hb1 := Nat.lt_of_lt_of_le hb1 hb.size
              replace hb2 := Nat.lt_of_lt_of_le hb2 hb.size
              clear hb HS HB HD HR
              obtain ⟨A5, hc5, hc5b⟩ := cut_from (P := Tryd.prog) Tryd.underlying22 (by kernel_rfl) A0 n c0 (E j) hEn hnc
              have HC5 := Lib.hid hc5
              have hgj : 2 < G j := by omega
              clear hc5
              go_wp2_with fail
              refine wp_region_factsS (l := [_, _, _, _, _, _, _, _, _, _]) (tl := []) (B := wv.heap.size) (w0 := wv) [SF.is (.slice (some ad1) (m) (c)), SF.is (.int .i64 ((j : Nat) : Int)), SF.is (.pointer (some (ad1.add j))), SF.is (.pointer (some ⟨G j, 0, none⟩)), SF.is (.slice (A0) (n) (c0)), SF.is (.slice (some ad2) (m) (c2)), SF.is (.int .i64 ((j : Nat) : Int)), SF.is (.pointer (some (ad2.add j))), SF.is (.int .i64 ((E j : Nat) : Int)), SF.is (.slice (A5) (n - E j) (c0 - E j))] (by kernel_rfl) (by kernel_rfl) rfl (Nat.le_refl _) (Below.refl _ _) ⟨?_, ?_, ?_, ?_, ?_, ?_, ?_, ?_, ?_, ?_, trivial⟩ ?_
              · exact (opOb_move _ rfl (.inl rfl) rfl)
              · exact (opOb_move _ rfl (.inl rfl) rfl)
              · exact opOb_idx rfl rfl (OpK.tmp rfl) (OpK.tmp rfl) (fun w => run_idxP w ad1 m c j hjm)
              · exact opOb_ld rfl rfl (OpK.tmp rfl) (fun w' hb => run_ldP w' _ _ ((hb.cell (by rw [block_of_add]; exact hb1)).trans C1.out))
              · exact (opOb_move _ rfl (.inl rfl) rfl)
              · exact (opOb_move _ rfl (.inl rfl) rfl)
              · exact (opOb_move _ rfl (.inl rfl) rfl)
              · exact opOb_idx rfl rfl (OpK.tmp rfl) (OpK.tmp rfl) (fun w => run_idxI w ad2 m c2 j hjm)
              · exact opOb_ld rfl rfl (OpK.tmp rfl) (fun w' hb => run_ldI w' _ _ ((hb.cell (by rw [block_of_add]; exact hb2)).trans C2.out))
              · exact opOb_slc rfl rfl (OpK.tmp rfl) (OpKo.tmp rfl) OpKo.no (fun w => HC5.out w)
              · intro w' hb8
                simp only [fin, SF.is, forall_eq]
                simp only [Act.put, List.setIfInBounds_toArray, List.set_cons_succ, List.set_cons_zero]
                refine wp_fn ent_write #[.pointer (some ⟨G j, 0, none⟩), .slice A5 (n - E j) (c0 - E j)] rfl rfl ?_
                have hs8 := HS7.out.below hb8
                refine (write_any (G j) (E j) (n - E j) (c0 - E j) A5 x (fun i => x (E j + i)) w' (hs8.digs j (Nat.le_refl _) hjm) ((hc5b.rd (R0.out.below hs8.bel)).more hs8.bel.size) (hc5b.apart (R0.out.apt hGw)) (fun i => HX.out _) HX.out (by omega) (by omega) (HP.out.below hs8.bel) ⟨by omega, by omega⟩).mono ?_
                rintro e w9 ⟨rfl, hd9, hg9⟩
                have hd9b := hd9.congr (fun i _ => cat_from x (E j) i)
                rw [show E j + (n - E j) = n by omega] at hd9b
                have hs9 := hs8.writeJ hjm hg9
                refine ⟨_, rfl, ?_⟩
                simp only [seqWp]
                obtain ⟨_, e9, hb9, hc9⟩ := hs9.own1.rd.at_ hjm
                obtain rfl := Option.some.inj e9
                have HS9 := Lib.hid hs9
                have HD9 := Lib.hid hd9b
                clear HS7 HC5 hc5b C1 C2 hb1 hb2 e9 hs8 hd9 hg9 hs9 hd9b hb8
                go_wp2_with (first
                  | (refine wpList_neArr rfl rfl 5 32 .u8 (fun i => ((shaB x n i : Nat) : Int)) (fun i => ((shaB x n i : Nat) : Int)) false Tryd.underlying24 Tryd.underlying5 (by kernel_rfl) (by kernel_rfl) rfl rfl (by simp) ?_)
                  | (go_at_call 15; refine (sumd_any (G j) n x _ HD9.out HX.out (HP.out.below HS9.out.bel)).mono ?_; rintro e w10 ⟨rfl, hb10⟩; have HS10 := Lib.hid (HS9.out.below hb10); clear hb10)
                  | (go_at_call 9; refine (sum_any n c0 A0 x _ ((R0.out.below HS10.out.bel).more HS10.out.bel.size) HX.out (by omega) hnc (HP.out.below HS10.out.bel)).mono ?_; rintro e w11 ⟨rfl, hb11⟩; have HS11 := Lib.hid (HS10.out.below hb11); clear hb11))
                go_roundw
                case rel => exact ⟨j + 1, by go_num, by omega, HS11.out⟩
                case measure => simp [intOf]; omega
          · obtain rfl : m = j := by omega
            have HS := Lib.hid hst
            clear hst
            go_wp2_with (first
              | (refine wpList_eqArr rfl rfl 5 32 .u8 (fun i => ((shaB x n i : Nat) : Int)) (fun i => ((shaB x n i : Nat) : Int)) true Tryd.underlying24 Tryd.underlying5 (by kernel_rfl) (by kernel_rfl) rfl rfl (by simp) ?_)
              | (go_at_call 15; refine (sumd_any g n x _ HS.out.dig HX.out (HP.out.below HS.out.bel)).mono ?_; rintro e w5 ⟨rfl, hb5⟩; have HS5 := Lib.hid (HS.out.below hb5); clear hb5)
              | (go_at_call 9; refine (sum_any n c0 A0 x _ ((R0.out.below HS5.out.bel).more HS5.out.bel.size) HX.out (by omega) hnc (HP.out.below HS5.out.bel)).mono ?_; rintro e w6 ⟨rfl, hb6⟩; have HS6 := Lib.hid (HS5.out.below hb6); clear hb6))
            go_ret
            exact ⟨rfl, HS6.out.bel⟩
end Go.Proofs.YtlklomaekimjlaaDoor
