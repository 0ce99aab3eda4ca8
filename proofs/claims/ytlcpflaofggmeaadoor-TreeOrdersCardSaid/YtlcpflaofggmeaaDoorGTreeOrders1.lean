/- A part of what the proofs stand on: TreeOrdersLaw. -/
import Derived.Test.YtlcpflaofggmeaaDoorGTre23
import Derived.Deep.CutBlock
/- The last leaf of each place makes the root, in whatever order. (Printed by a program of mine.) -/
namespace Go.Proofs.YtlcpflaofggmeaaDoor
set_option maxRecDepth 40000
open Go.RowKit
namespace TreeOrders
open TreeLaw
/-- A leaf that begins with 9, k. -/
def twoB (k : Nat) : Nat → Nat := fun q => if q = 0 then 9 else if q = 1 then k else 0
theorem twoB_lt {k : Nat} (h : k < 256) : ∀ q, twoB k q < 256 := fun q => by unfold twoB; split <;> (try split) <;> omega
theorem builtK (k : Nat) : Tryd.prog.built 30 [(0, .int .u8 (k : Int))] = some (arr 32 (u8v (oneN k))) := by kernel_rfl
theorem built2 (k : Nat) : Tryd.prog.built 30 [(0, .int .u8 9), (1, .int .u8 (k : Int))] = some (arr 32 (u8v (twoB k))) := by kernel_rfl
theorem cv8I (k : Nat) (hk : k < 256) (w : World) : (convert 3 5 (.int .i64 (k : Int))).run Tryd.prog w = .ok (.int .u8 (k : Int)) w := by
  have h3 : IntKind.u8.wrap (k : Int) = (k : Int) := by simp [IntKind.wrap, IntKind.bits, IntKind.signed]; omega
  rw [show (.int .u8 (k : Int) : Value) = .int .u8 (IntKind.u8.wrap (k : Int)) by rw [h3]]
  simp [go_sem]
theorem modN (a b : Nat) (hb : 0 < b) (w : World) : (binOp .rem 3 (.int .i64 (a : Int)) (.int .i64 (b : Int))).run Tryd.prog w = .ok (.int .i64 ((a % b : Nat) : Int)) w := by
  rw [TreeLaw.modI (a : Int) b hb w]
  rfl
/-- Where the k-th leaf of the last round is laid. -/
def at6 (n k : Nat) : Nat := if n % 7 = 0 then k else k * 7 % n
theorem at6_lt {n k : Nat} (h : k < n) : at6 n k < n := by
  unfold at6
  split
  · exact h
  · exact Nat.mod_lt _ (by omega)
theorem at6_all {n p : Nat} (hn : n ≤ 30) (hp : p < n) : ∃ k, k < n ∧ at6 n k = p := by
  have h : ((List.range 31).all fun n => (List.range n).all fun p => (List.range n).any fun k => at6 n k == p) = true := by kernel_rfl
  rw [List.all_eq_true] at h
  have h1 := h n (List.mem_range.2 (by omega))
  rw [List.all_eq_true] at h1
  have h2 := h1 p (List.mem_range.2 hp)
  rw [List.any_eq_true] at h2
  obtain ⟨k, hk, he⟩ := h2
  exact ⟨k, List.mem_range.1 hk, by simpa using he⟩
/-- The first k places of the last round are laid. -/
def Laid6 (n k : Nat) (x y : Nat → Nat) : Prop := ∀ j, j < k → ∀ q, q < 32 → x (at6 n j * 32 + q) = y (at6 n j * 32 + q)
theorem laid_step {n k : Nat} {x y : Nat → Nat} (h : Laid6 n k x y) (hk : k < n) : Laid6 n (k + 1) (setX n x ((at6 n k : Nat) : Int) (leafN y (at6 n k))) y := fun j hj q hq => by
  unfold setX
  rw [if_pos (by have := at6_lt hk; omega)]
  unfold setN leafN
  split
  · rename_i h1
    simp only [Int.toNat_natCast] at h1 ⊢
    congr 1; omega
  · rename_i h1
    simp only [Int.toNat_natCast] at h1
    by_cases e : j = k
    · subst e; omega
    · exact h j (by omega) q hq
theorem laid_all {n : Nat} {x y : Nat → Nat} (hn : n ≤ 30) (h : Laid6 n n x y) : ∀ i, i < n * 32 → x i = y i := fun i hi => by
  obtain ⟨k, hk, he⟩ := at6_all hn (show i / 32 < n by omega)
  have h1 := h k hk (i % 32) (by omega)
  rw [he, show i / 32 * 32 + i % 32 = i by omega] at h1
  exact h1
end TreeOrders
open TreeLaw TreeAwake TreeOrders in
set_option maxHeartbeats 16000000 in
theorem orders_in (w : World) (F : Option Addr) (N n c : Nat) (y : Nat → Nat) (hA : Rd w w.heap.size F (N * 32) (u8v y)) (hy : ∀ i, y i < 256) (hnc : N ≤ c) (hn30 : n ≤ 30) (hnN : n ≤ N) (hN : 30 < N → n = 30) (hN2 : ¬ 30 < N → n = N) (G : Option Addr) (m c1 : Nat) (od : Nat → Int) (hA1 : Rd w w.heap.size G m (fun i => .int .i64 (od i))) (hp : ShaPkg w) (hpt : TzPkg w) :
    Calls Tryd.prog 3 #[.slice F N c, .slice G m c1] w fun e w' => e = .returned (.bool true) ∧ Below w.heap.size w w' := by
  have HP := Lib.hid hp
  have HPT := Lib.hid hpt
  have HPB := Lib.hid hp.lt
  have HTB := Lib.hid hpt.lt
  have HA := Lib.hid hA
  have HA1 := Lib.hid hA1
  have HY := Lib.hid hy
  have HN1 := Lib.hid hN
  have HN2 := Lib.hid hN2
  have HNN := Lib.hid hnN
  have HNc := Lib.hid hnc
  clear hp hpt hA hA1 hy hN hN2 hnN hnc
  go_enter Tryd.func3, Tryd.ntmps3
  go_upto_if 19 with (first
    | (go_at_call 8; refine (awake06_any _ HP.out HPT.out).mono ?_; rintro r w1 ⟨rfl, hb⟩; have HB1 := Lib.hid hb; clear hb))
  go_cut [5] from 18 (fun v5 wx => v5 = .int .i64 ((n : Nat) : Int) ∧ w1 = wx)
  case first =>
    by_cases hN30 : 30 < N
    · obtain rfl : n = 30 := HN1.out hN30
      go_wp2_with fail
      go_meet
      case rel => exact ⟨rfl, rfl⟩
    · obtain rfl : n = N := HN2.out hN30
      go_wp2_with fail
      go_meet
      case rel => exact ⟨rfl, rfl⟩
  case rest =>
    obtain ⟨rfl, rfl⟩ := hcut
    go_wp2_with (first
      | (go_at_call 9; refine (tnew_look 32 (by omega) (by omega) _ (HP.out.below HB1.out)).mono ?_; rintro r w2 ⟨T, v0, rfl, hm, hst, hl, hH, hD, hd, hb⟩; have HM2 := Lib.hid (TM.mono hm HB1.out.size); have HT2 := Lib.hid hst; have HL2 := Lib.hid hl; have HH2 := Lib.hid hH; have HD2 := Lib.hid hD; have HB2 := Lib.hid (HB1.out.trans (hb.mono HB1.out.size)); clear hm hst hl hH hD hd hb))
    go_loopw [7] (fun i wr => ∃ (k : Nat) (v : TV) (x : Nat → Nat), i = .int .i64 ((k : Nat) : Int) ∧ k ≤ n ∧ TM wr w.heap.size T v ∧ TStep w2 wr T v0 v ∧ TSt v k x ∧ v.H = 0) (fun i _ => n - (intOf i).toNat)
    case atStart => exact ⟨0, v0, fun _ => 0, rfl, Nat.zero_le _, HM2.out, TStep.refl (Below.refl _ _), HT2.out, HH2.out⟩
    case round =>
      obtain ⟨k, v, x, rfl, hkn, hm, hs, hst, hH⟩ := hrel
      have HMk := Lib.hid hm
      have HSk := Lib.hid hs
      have HTk := Lib.hid hst
      have HHk := Lib.hid hH
      clear hm hs hst hH
      obtain ⟨wo, rfl⟩ : ∃ wo : World, wo = wr := ⟨_, rfl⟩
      by_cases hlt : k < n
      · go_wp2_with (first
          | (refine wpList_as rfl 30 rfl (.int .u8 ((k : Nat) : Int)) ?_ ?_; (· exact ex_cnv rfl rfl (fun w => cv8I k (by omega) w) _))
          | (refine wpList_as rfl 31 rfl (rootV (oneN k)) ?_ ?_; (· exact TreeCopy.ex_build 30 _ rfl [(0, .int .u8 ((k : Nat) : Int))] rfl _ (builtK k)))
          | (go_at_call 10; refine (tapp_any v w.heap.size T k 32 x (oneN k) _ HMk.out HTk.out (HSk.out.lim.trans HL2.out) (oneN_lt (by omega))).mono ?_; rintro r w3 ⟨v1, rfl, hm, hs, hst, _, hH⟩; rw [show appM k 32 = k + 1 by unfold appM; rw [if_pos (by omega)]] at hst; have HM3 := Lib.hid hm; have HS3 := Lib.hid (HSk.out.trans hs); have HT3 := Lib.hid hst; have HH3 : Hid (v1.H = 0) := Lib.hid (by rw [hH]; exact HHk.out); clear hm hs hst hH))
        go_roundw
        case rel => exact ⟨k + 1, v1, _, by go_num, by omega, HM3.out, HS3.out, HT3.out, HH3.out⟩
        case measure => simp [intOf]; omega
      · obtain rfl : n = k := Nat.le_antisymm (Nat.le_of_not_lt hlt) hkn
        have HN30 := Lib.hid hn30
        clear hlt hkn
        go_upto_block 2 with fail
        go_cut [8, 9] from 33 (fun _t8 _t9 wx => ∃ v x, TM wx w.heap.size T v ∧ TStep w2 wx T v0 v ∧ TSt v n x ∧ v.H ≤ 257698037760)
        case first =>
          go_wp2_with fail
          go_loopw [8] (fun i wr => ∃ (j : Nat) (v : TV) (x : Nat → Nat), i = .int .i64 ((j : Nat) : Int) ∧ j ≤ m ∧ j ≤ 60 ∧ TM wr w.heap.size T v ∧ TStep w2 wr T v0 v ∧ TSt v n x ∧ v.H ≤ j * 4294967296) (fun i _ => 60 - (intOf i).toNat)
          case atStart => exact ⟨0, v, x, rfl, Nat.zero_le _, Nat.zero_le _, HMk.out, HSk.out, HTk.out, by rw [HHk.out]; exact Nat.zero_le _⟩
          case round =>
            obtain ⟨j, v3, x3, rfl, hjm, hj60, hm, hs, hst, hH⟩ := hrel
            clear HMk HSk HTk HHk
            have HMk := Lib.hid hm
            have HSk := Lib.hid hs
            have HTk := Lib.hid hst
            have HHk := Lib.hid hH
            have HJ60 := Lib.hid hj60
            have HBk : Hid (Below w.heap.size w wr) := Lib.hid (HB2.out.trans (hs.below HM2.out (Nat.le_refl _) HM2.out.base_le))
            clear hm hs hst hH
            obtain ⟨wp, rfl⟩ : ∃ wp : World, wp = wr := ⟨_, rfl⟩
            by_cases hlt : j < m
            · by_cases hlt6 : j < 60
              · by_cases hk0 : 0 < n
                · obtain ⟨ad, hG, hAb, hAc⟩ := HA1.out (by omega)
                  have HAo : Hid (wp.cell? (ad.add (j * 1)) = some (.int .i64 (od j))) := Lib.hid (by
                    rw [Nat.mul_one, HBk.out.cell (by rw [block_of_add]; exact hAb), hAc _ hlt])
                  subst hG
                  clear hAb hAc
                  obtain ⟨p, hp1, hp2, hp3, hp4⟩ := cutK (od j) n hk0
                  have HQ := Lib.hid hp2
                  have HP3 : Hid (-(n : Int) < (od j).tmod (n : Int) ∧ (od j).tmod (n : Int) < (n : Int)) := Lib.hid ⟨hp3, hp4⟩
                  have HPk := Lib.hid hp1
                  clear hp1 hp2 hp3 hp4
                  go_upto_region 18 with (first
                    | (refine wpList_as rfl 49 rfl (.pointer (some (ad.add (j * 1)))) ?_ ?_; (· exact ex_idx rfl rfl rfl (fun w => run_idxZ (z := 1) w Tryd.underlying23 (by kernel_rfl) ad hlt) _))
                    | (refine wpList_as rfl 50 rfl (.int .i64 (od j)) ?_ ?_; (· exact ex_ld1 .i64 rfl rfl Tryd.underlying3 HAo.out))
                    | (refine wpList_as rfl 52 rfl (.int .i64 ((od j).tmod (n : Int))) ?_ ?_; (· exact ex_bin rfl rfl rfl rfl (fun w => modI (od j) n hk0 w) _))
                    | (refine wpList_as rfl 54 rfl (.int .i64 ((od j).tmod (n : Int) + (n : Int))) ?_ ?_; (· exact ex_bin rfl rfl rfl rfl (fun w => addZ _ _ _ rfl (by have := HP3.out; have := HN30.out; omega) w) _))
                    | (refine wpList_as rfl 56 rfl (.int .i64 ((p : Nat) : Int)) ?_ ?_; (· exact ex_bin rfl rfl rfl rfl (fun w => by rw [← HQ.out]; exact modI _ n hk0 w) _))
                    | (refine wpList_as rfl 60 rfl (.int .u8 ((j : Nat) : Int)) ?_ ?_; (· exact ex_cnv rfl rfl (fun w => cv8I j (by have := HJ60.out; omega) w) _))
                    | (refine wpList_as rfl 61 rfl (rootV (twoB j)) ?_ ?_; (· exact TreeCopy.ex_build 30 _ rfl [(0, .int .u8 9), (1, .int .u8 ((j : Nat) : Int))] rfl _ (built2 j)))
                    | (go_at_call 11; refine (tset_any v3 w.heap.size T n ((p : Nat) : Int) x3 (twoB j) _ HMk.out HTk.out (twoB_lt (by have := HJ60.out; omega))).mono ?_; rintro r w5 ⟨v5, rfl, hm, hs, hst, _, hH⟩; have HM5 := Lib.hid hm; have HS5 := Lib.hid (HSk.out.trans hs); have HT5 := Lib.hid hst; have HH5 : Hid (v5.H ≤ j * 4294967296) := Lib.hid (by rw [hH]; exact HHk.out); clear hm hs hst hH))
                  have HBx : Hid (Below w.heap.size w w5) := Lib.hid (HB2.out.trans (HS5.out.below HM2.out (Nat.le_refl _) HM2.out.base_le))
                  obtain ⟨x5, hx5⟩ : ∃ x5, setX n x3 ((p : Nat) : Int) (twoB j) = x5 := ⟨_, rfl⟩
                  rw [hx5] at HT5
                  clear hx5 HAo HQ HP3 HMk HSk HTk HHk
                  by_cases h5 : j % 5 = 0
                  · go_wp2_with (first
                      | (refine wpList_as rfl 64 rfl (.int .i64 ((j % 5 : Nat) : Int)) ?_ ?_; (· exact ex_bin rfl rfl rfl rfl (fun w => modN j 5 (by omega) w) _))
                      | (refine wpList_as rfl 65 rfl (.bool true) ?_ ?_; (· exact ex_bin rfl rfl rfl rfl (fun w => eqZB (j % 5) true (by simp [h5]) w) _))
                      | (go_at_call 12; refine (troot_any v5 w.heap.size T n x5 _ HM5.out HT5.out (by have := HH5.out; have := HJ60.out; omega) (HP.out.below HBx.out) HPB.out (HPT.out.below HBx.out HTB.out)).mono ?_; rintro r w6 ⟨v6, rfl, hm, hs, hst, _, hH⟩; have HM6 := Lib.hid hm; have HS6 := Lib.hid (HS5.out.trans hs); have HT6 := Lib.hid hst; have HH6 : Hid (v6.H ≤ (j + 1) * 4294967296) := Lib.hid (by have h1 := cost_le n (dirB v5.dn v5.dw) v5.D; have h2 := HT5.out.D30; have h3 := HN30.out; have h4 := HH5.out; omega); clear hm hs hst hH))
                    go_roundw
                    case rel => exact ⟨j + 1, v6, x5, by go_num, by omega, by omega, HM6.out, HS6.out, HT6.out, HH6.out⟩
                    case measure => simp [intOf]; omega
                  · go_wp2_with (first
                      | (refine wpList_as rfl 64 rfl (.int .i64 ((j % 5 : Nat) : Int)) ?_ ?_; (· exact ex_bin rfl rfl rfl rfl (fun w => modN j 5 (by omega) w) _))
                      | (refine wpList_as rfl 65 rfl (.bool false) ?_ ?_; (· exact ex_bin rfl rfl rfl rfl (fun w => eqZB (j % 5) false (by simp [h5]) w) _)))
                    go_roundw
                    case rel => exact ⟨j + 1, v5, x5, by go_num, by omega, by omega, HM5.out, HS5.out, HT5.out, Nat.le_trans HH5.out (Nat.mul_le_mul_right _ (Nat.le_succ j))⟩
                    case measure => simp [intOf]; omega
                · go_wp2_with fail
                  go_meet
                  case rel => exact ⟨v3, x3, HMk.out, HSk.out, HTk.out, by have := HHk.out; omega⟩
              · have hje : 60 ≤ j := by omega
                go_wp2_with fail
                go_meet
                case rel => exact ⟨v3, x3, HMk.out, HSk.out, HTk.out, by have := HHk.out; omega⟩
            · have hje : m ≤ j := by omega
              go_wp2_with fail
              go_meet
              case rel => exact ⟨v3, x3, HMk.out, HSk.out, HTk.out, by have := HHk.out; omega⟩
        case rest =>
          obtain ⟨v1, x1, h1, h2, h3, h4⟩ := hcut
          have HM1 := Lib.hid h1
          have HS1 := Lib.hid h2
          have HT1 := Lib.hid h3
          have HH1 := Lib.hid h4
          clear h1 h2 h3 h4 HMk HSk HTk HHk
          go_wp2_with fail
          go_loopw [10] (fun i wr => ∃ (j : Nat) (v : TV) (x : Nat → Nat), i = .int .i64 ((j : Nat) : Int) ∧ j ≤ n ∧ TM wr w.heap.size T v ∧ TStep w2 wr T v0 v ∧ TSt v n x ∧ v.H ≤ 257698037760 ∧ Laid6 n j x y) (fun i _ => n - (intOf i).toNat)
          case atStart => exact ⟨0, v1, x1, rfl, Nat.zero_le _, HM1.out, HS1.out, HT1.out, HH1.out, fun j hj => by omega⟩
          case round =>
            obtain ⟨j, v, x, rfl, hjn0, hm, hs, hst, hH, hL⟩ := hrel
            have HMk := Lib.hid hm
            have HSk := Lib.hid hs
            have HTk := Lib.hid hst
            have HHk := Lib.hid hH
            have HLk := Lib.hid hL
            have HBk : Hid (Below w.heap.size w wr) := Lib.hid (HB2.out.trans (hs.below HM2.out (Nat.le_refl _) HM2.out.base_le))
            clear hm hs hst hH hL HM1 HS1 HT1 HH1
            obtain ⟨wq, rfl⟩ : ∃ wq : World, wq = wr := ⟨_, rfl⟩
            by_cases hjn : j < n
            · have hn0 : 0 < n := by omega
              obtain ⟨ad, hF, hAb, hAx⟩ := HA.out (by have := HNN.out; omega)
              subst hF
              by_cases h7 : n % 7 = 0
              ·
                have Hat : Hid (at6 n j = j) := Lib.hid (by unfold at6; rw [if_pos h7])
                have Hp : Hid (j < n) := Lib.hid (by rw [← Hat.out]; exact at6_lt hjn)
                have HAc : Hid (∀ q, q < 32 → wq.cell? ((ad.add (j * 32)).add q) = some (u8v (leafN y j) q)) := Lib.hid (fun q hq => by
                  have := Hp.out
                  have := HNN.out
                  rw [add_add, (HBk.out.cell (by rw [block_of_add]; exact hAb)), hAx _ (by omega)]
                  rfl)
                go_wp2_with (first
                  | (refine wpList_as rfl 74 rfl (.int .i64 ((j * 7 : Nat) : Int)) ?_ ?_; (· exact ex_bin rfl rfl rfl rfl (fun w => mulZ (j : Int) 7 ((j * 7 : Nat) : Int) (by simp) (by omega) w) _))
                  | (refine wpList_as rfl 76 rfl (.int .i64 ((j * 7 % n : Nat) : Int)) ?_ ?_; (· exact ex_bin rfl rfl rfl rfl (fun w => modN (j * 7) n hn0 w) _))
                  | (refine wpList_as rfl 78 rfl (.int .i64 ((n % 7 : Nat) : Int)) ?_ ?_; (· exact ex_bin rfl rfl rfl rfl (fun w => modN n 7 (by omega) w) _))
                  | (refine wpList_as rfl 79 rfl (.bool true) ?_ ?_; (· exact ex_bin rfl rfl rfl rfl (fun w => eqZB (n % 7) true (by simp [h7]) w) _))
                  | (refine wpList_as rfl 85 rfl (.pointer (some (ad.add (j * 32)))) ?_ ?_; (· exact ex_idx rfl rfl rfl (fun w => run_idxZ (z := 32) w Tryd.underlying22 (by kernel_rfl) ad (Nat.lt_of_lt_of_le Hp.out HNN.out)) _))
                  | (refine wpList_load_rd rfl 30 (.tmp 85) rfl 32 _ Tryd.underlying30 rfl (by kernel_rfl) (ad.add (j * 32)) rfl (u8v (leafN y j)) HAc.out ?_)
                  | (go_at_call 11; refine (tset_any v w.heap.size T n ((j : Nat) : Int) x (leafN y j) _ HMk.out HTk.out (fun _ => HY.out _)).mono ?_; rintro r w6 ⟨v6, rfl, hm, hs, hst, _, hH⟩; rw [show setK n ((j : Nat) : Int) = 0 from if_pos (by have := Hp.out; omega)]; have HM6 := Lib.hid hm; have HS6 := Lib.hid (HSk.out.trans hs); have HT6 := Lib.hid hst; have HH6 : Hid (v6.H ≤ 257698037760) := Lib.hid (by rw [hH]; exact HHk.out); clear hm hs hst hH))
                go_roundw
                case rel => exact ⟨j + 1, v6, _, by go_num, by omega, HM6.out, HS6.out, HT6.out, HH6.out, by have h1 := laid_step HLk.out hjn; rw [Hat.out] at h1; exact h1⟩
                case measure => simp [intOf]; omega
              ·
                obtain ⟨p, hp7⟩ : ∃ p, j * 7 % n = p := ⟨_, rfl⟩
                have HP7 := Lib.hid hp7
                have Hat : Hid (at6 n j = p) := Lib.hid (by unfold at6; rw [if_neg h7, hp7])
                clear hp7
                have Hp : Hid (p < n) := Lib.hid (by rw [← Hat.out]; exact at6_lt hjn)
                have HAc : Hid (∀ q, q < 32 → wq.cell? ((ad.add (p * 32)).add q) = some (u8v (leafN y p) q)) := Lib.hid (fun q hq => by
                  have := Hp.out
                  have := HNN.out
                  rw [add_add, (HBk.out.cell (by rw [block_of_add]; exact hAb)), hAx _ (by omega)]
                  rfl)
                go_wp2_with (first
                  | (refine wpList_as rfl 74 rfl (.int .i64 ((j * 7 : Nat) : Int)) ?_ ?_; (· exact ex_bin rfl rfl rfl rfl (fun w => mulZ (j : Int) 7 ((j * 7 : Nat) : Int) (by simp) (by omega) w) _))
                  | (refine wpList_as rfl 76 rfl (.int .i64 ((p : Nat) : Int)) ?_ ?_; (· exact ex_bin rfl rfl rfl rfl (fun w => by rw [← HP7.out]; exact modN (j * 7) n hn0 w) _))
                  | (refine wpList_as rfl 78 rfl (.int .i64 ((n % 7 : Nat) : Int)) ?_ ?_; (· exact ex_bin rfl rfl rfl rfl (fun w => modN n 7 (by omega) w) _))
                  | (refine wpList_as rfl 79 rfl (.bool false) ?_ ?_; (· exact ex_bin rfl rfl rfl rfl (fun w => eqZB (n % 7) false (by simp [h7]) w) _))
                  | (refine wpList_as rfl 85 rfl (.pointer (some (ad.add (p * 32)))) ?_ ?_; (· exact ex_idx rfl rfl rfl (fun w => run_idxZ (z := 32) w Tryd.underlying22 (by kernel_rfl) ad (Nat.lt_of_lt_of_le Hp.out HNN.out)) _))
                  | (refine wpList_load_rd rfl 30 (.tmp 85) rfl 32 _ Tryd.underlying30 rfl (by kernel_rfl) (ad.add (p * 32)) rfl (u8v (leafN y p)) HAc.out ?_)
                  | (go_at_call 11; refine (tset_any v w.heap.size T n ((p : Nat) : Int) x (leafN y p) _ HMk.out HTk.out (fun _ => HY.out _)).mono ?_; rintro r w6 ⟨v6, rfl, hm, hs, hst, _, hH⟩; rw [show setK n ((p : Nat) : Int) = 0 from if_pos (by have := Hp.out; omega)]; have HM6 := Lib.hid hm; have HS6 := Lib.hid (HSk.out.trans hs); have HT6 := Lib.hid hst; have HH6 : Hid (v6.H ≤ 257698037760) := Lib.hid (by rw [hH]; exact HHk.out); clear hm hs hst hH))
                go_roundw
                case rel => exact ⟨j + 1, v6, _, by go_num, by omega, HM6.out, HS6.out, HT6.out, HH6.out, by have h1 := laid_step HLk.out hjn; rw [Hat.out] at h1; exact h1⟩
                case measure => simp [intOf]; omega
            · obtain rfl : n = j := Nat.le_antisymm (Nat.le_of_not_lt hjn) hjn0
              obtain ⟨Z, hZ⟩ : ∃ Z, treeN (dep 32) n y = Z := ⟨_, rfl⟩
              have HZ := Lib.hid hZ
              have HZV : Hid (rootV (treeN v.D n y) = rootV Z) := Lib.hid (by rw [HSk.out.D, HD2.out, hZ])
              have HTy := Lib.hid (HTk.out.x_congr (x' := y) (fun i hi => (laid_all HN30.out HLk.out i hi).symm))
              clear hZ hjn hjn0 HLk HTk hn30
              go_upto_region 29 with (first
                | (refine wpList_as rfl 92 rfl (.slice F n c) ?_ ?_; (· exact ex_slice rfl rfl rfl rfl (fun w => cut_toZ (z := 32) Tryd.underlying22 (by kernel_rfl) F N c n (by have := HNN.out; have := HNc.out; omega) w) _))
                | (go_at_call 13; refine (tree_any n c F y ((32 : Nat) : Int) _ (((HA.out.below HBk.out).more HBk.out.size).short (by have := HNN.out; omega)) HY.out (by have := HNN.out; have := HNc.out; omega) (HP.out.below HBk.out)).mono ?_; rintro r w12 ⟨rfl, hb⟩; rw [treeR_ok y (by have := HN30.out; omega) (by omega), treeK_ok (by have := HN30.out; omega) (by omega), HZ.out]; have HBt := Lib.hid hb; clear hb)
                | (refine wpList_allocL rfl 30 12 rfl rfl (HS.nil _) (Array.replicate 32 (.int .u8 0)) (by kernel_rfl) 32 (u8v fun _ => 0) (by rfl) (zero_at 32 (.int .u8 0)) ?_; intro b12 wa13 hb12 hc12 hs; have HSa13 := Lib.hid hs; clear hs)
                | (refine wpList_storeH rfl 30 (.tmp 12) (.tmp 94) rfl HSa13.out 0 rfl (u8v Z) rfl rfl (by kernel_rfl) (fun _ _ => rfl) ?_; intro w14 hs; have HR14 := Lib.hid (hs.row 0 rfl); have HB14 := Lib.hid (HBt.out.trans ((hs.out (by simp; omega)).mono HBt.out.size)); clear hs))
              have HM14 := Lib.hid (HMk.out.below HB14.out)
              have HBw14 := Lib.hid (HBk.out.trans (HB14.out.mono HBk.out.size))
              have HP14 := Lib.hid (HP.out.below HBw14.out)
              have HPT14 := Lib.hid (HPT.out.below HBw14.out HTB.out)
              have HN14 : Hid (¬ v.own T b12) := Lib.hid (fun ho => by have := HMk.out.lt ho; have := HBt.out.size; omega)
              have HH14 : Hid (v.H ≤ 1152921504606846976) := Lib.hid (by have := HHk.out; omega)
              refine wp_region_stage (l := [_, _, _, _, _, _, _, _, _]) (N := 1) (RJ w.heap.size T n y w14 v) [SF.is (.int .i64 0), SF.is (.bool true), SF.is (.bool true), SF.is (tpV T), SF.is (rootV Z), SF.is (rootV Z), SF.is (.bool true), SF.is (.bool true), SF.is (.bool true)] [none, none, none, none, some 0, none, none, none, none] (by kernel_rfl) (by kernel_rfl) (by kernel_rfl) rfl rfl (fun k w1 w2 hj hb => hj.below hb) (pure_is (Fs := [.int .i64 0, .bool true, .bool true, tpV T, rootV Z, rootV Z, .bool true, .bool true, .bool true])) (RJ.start HM14.out HTy.out) ⟨?_, ?_, ?_, ?_, ?_, ?_, ?_, ?_, ?_, trivial⟩ ?_
              · exact fun kj wj hj => (opOb_move _ rfl (.inl rfl) rfl)
              · exact fun kj wj hj => opOb_eqInt .i64 0 0 true Tryd.underlying27 (by simp) rfl rfl (OpK.tmp rfl) OpK.const
              · exact fun kj wj hj => (opOb_move _ rfl (.inl rfl) rfl)
              · exact fun kj wj hj => opOb_on 98 rfl rfl ((opOb_move _ rfl (.inl rfl) rfl))
              · exact opJ_on 98 rfl rfl (opJ_fn1 TreeLaw.ent_root rfl rfl (OpK.tmp rfl) (fun wj hj => (hj.root HM14.out HH14.out HP14.out HPB.out HPT14.out HTB.out).mono fun e w2 ⟨r, he, hr, hj2⟩ => ⟨r, he, (by rw [hr, HZV.out]; rfl), hj2⟩))
              · exact fun kj wj hj => opOb_on 98 rfl rfl (opOb_ld rfl rfl (OpK.tmp rfl) (fun w' hb => ld_all (hj.row HR14.out HN14.out) (hj.row HR14.out HN14.out).lt Tryd.underlying30 rfl (by kernel_rfl) w' hb))
              · exact fun kj wj hj => opOb_on 98 rfl rfl (opOb_eqRB true rfl rfl (OpK.tmp rfl) (OpK.tmp rfl) (by simp))
              · exact fun kj wj hj => opOb_pickT rfl rfl rfl (OpK.tmp rfl)
              · exact fun kj wj hj => (opOb_move _ rfl (.inr rfl) rfl)
              · intro wn hj
                simp only [fin, SF.is, forall_eq]
                simp only [Act.put, List.setIfInBounds_toArray, List.set_cons_succ, List.set_cons_zero]
                obtain ⟨v3, hm, hs, hst, _, hH⟩ := hj.done
                have HBe := Lib.hid (HBw14.out.trans ((hs.below HM14.out (Nat.le_refl _) HM14.out.base_le)))
                clear hm hs hst hH
                go_wp2_with fail
                go_ret
                exact ⟨rfl, HBe.out⟩
theorem treeOrders_law (w : World) (F : Option Addr) (N c : Nat) (y : Nat → Nat) (hA : Rd w w.heap.size F (N * 32) (u8v y)) (hy : ∀ i, y i < 256) (_hN : N * 32 ≤ 140737488351232) (hnc : N ≤ c) (G : Option Addr) (m c1 : Nat) (od : Nat → Int) (hA1 : Rd w w.heap.size G m (fun i => .int .i64 (od i))) (_hod : ∀ i, i < m → -9223372036854775808 ≤ od i ∧ od i ≤ 9223372036854775807) (_hm : m ≤ 140737488351232) (_hmc : m ≤ c1) (hp : ShaPkg w) (hpt : TzPkg w) :
    Calls Tryd.prog 3 #[.slice F N c, .slice G m c1] w fun e w' => e = .returned (.bool true) ∧ Below w.heap.size w w' := by
  by_cases h : 30 < N
  · exact orders_in w F N 30 c y hA hy hnc (Nat.le_refl _) (by omega) (fun _ => rfl) (fun h2 => absurd h h2) G m c1 od hA1 hp hpt
  · exact orders_in w F N N c y hA hy hnc (by omega) (Nat.le_refl _) (fun h2 => absurd h2 h) (fun _ => rfl) G m c1 od hA1 hp hpt
end Go.Proofs.YtlcpflaofggmeaaDoor
