/- All that are active together, churn and rewards: package look, and its reference. (Printed by a program of mine.) -/
import Derived.Test.YtjphchcjneofhaaDoorLookActs
import Derived.Test.YtjphchcjneofhaaDoorRoot
namespace Go.Proofs.YtjphchcjneofhaaDoor
open Go.RowKit
theorem ent_epoch (vs : Array Value) (w : World) : (callFunc 30 vs).run Tryd.prog w = .ok (.enter 30 vs) w := by kernel_rfl
theorem ent_root (vs : Array Value) (w : World) : (callFunc 28 vs).run Tryd.prog w = .ok (.enter 28 vs) w := by kernel_rfl
theorem run_quo64 (w : World) (t : TypeId) (a b q : Nat) (hb : 0 < b) (hq : a / b = q) (ha : a ≤ 9223372036854775807) : (binOp .quo t (.int .u64 (a : Int)) (.int .u64 (b : Int))).run Tryd.prog w = .ok (.int .u64 (q : Int)) w := by
  subst hq
  have h1 := Nat.div_le_self a b
  have h2 : (a : Int) / (b : Int) = ((a / b : Nat) : Int) := rfl
  have h3 : IntKind.u64.wrap ((a / b : Nat) : Int) = ((a / b : Nat) : Int) := by generalize a / b = q at *; rw [IntKind.wrap_u64]; omega
  rw [← h3, ← h2]
  simp [go_sem, Int.tdiv_eq_ediv_of_nonneg]
  omega
theorem run_mul64 (w : World) (t : TypeId) (a b m : Nat) (hm : a * b = m) (hb : m ≤ 9223372036854775807) : (binOp .mul t (.int .u64 (a : Int)) (.int .u64 (b : Int))).run Tryd.prog w = .ok (.int .u64 (m : Int)) w := by
  subst hm
  have h2 : (a : Int) * (b : Int) = ((a * b : Nat) : Int) := rfl
  have h3 : IntKind.u64.wrap ((a * b : Nat) : Int) = ((a * b : Nat) : Int) := by rw [IntKind.wrap_u64]; omega
  rw [← h3, ← h2]
  simp [go_sem]

theorem epoch_ref (F : Nat → Value) (s e : Nat) (hse : s / 4 = e) (hs : F 33 = .int .u64 (s : Int)) (hs2 : s < 1099511627776) (w : World) : Calls Tryd.prog 30 #[.agg (arr 1957 F)] w fun r w' => r = .returned (.int .u64 (e : Int)) ∧ Below w.heap.size w w' := by
  have HD := Lib.hid (show (s : Int) / 4 = (e : Int) by omega)
  have hs' := Lib.hid hs
  clear hse hs
  go_enter Tryd.func30, Tryd.ntmps30
  go_wp2_with (refine wpList_box rfl _ _ rfl 1957 F rfl ?_; intro w1 hr1 hb1; have HR1 := Lib.hid hr1; have HB1 := Lib.hid hb1; have h33 := hr1.cell (i := 33) (by omega); rw [hs'.out] at h33; clear hr1 hb1)
  go_ret
  rw [HD.out]
  exact ⟨rfl, HB1.out⟩

theorem totB_ge (t : Nat) : 1000000000 ≤ totB t := by unfold totB; split <;> omega
theorem totB_pos (t : Nat) : 0 < isq (totB t) := isq_pos (by have := totB_ge t; omega)
noncomputable def perB (t : Nat) : Nat := 64000000000 / isq t
theorem perB_le (t : Nat) : perB t ≤ 64000000000 := Nat.div_le_self _ _
def churnB (k : Nat) : Nat := if k / 32 < 2 then 2 else k / 32
theorem churnB_max (k : Nat) : ((churnB k : Nat) : Int) = if (2 : Int) < (k : Int) / 32 then (k : Int) / 32 else 2 := by
  unfold churnB
  by_cases h : k / 32 < 2
  · rw [if_pos h, if_neg (by omega)]; rfl
  · rw [if_neg h]
    split <;> omega
theorem ac_le (V : Nat → Value) (e n : Nat) : sumTo (ac V e) n ≤ n := by rw [← actIx_len]; exact actIx_le _ _ _
set_option maxHeartbeats 1000000 in
theorem churn_look (F : Nat → Value) (A : Option Addr) (n c : Nat) (V : Nat → Value) (s e : Nat) (hse : s / 4 = e) (w : World) (hs : F 33 = .int .u64 (s : Int)) (hs2 : s < 1099511627776) (hV : VOk w w.heap.size F A n c V) (he : ∀ i, i < n → effF V i ≤ 32000000000) (hn : n ≤ 65536) : Calls Tryd.prog 14 #[.agg (arr 1957 F)] w fun r w' => r = .returned (.int .u64 ((churnB (sumTo (ac V e) n) : Nat) : Int)) ∧ Below w.heap.size w w' := by
  have HV := Lib.hid hV
  have HE := Lib.hid he
  have HS := Lib.hid hs
  have hk := ac_le V e n
  clear hV he hs
  generalize hK : sumTo (ac V e) n = k at *
  have HK := Lib.hid hK
  clear hK
  go_enter Tryd.func14, Tryd.ntmps14
  go_wp2_with (first
    | (refine wpList_box rfl _ _ rfl 1957 F rfl ?_; intro w1 hr1 hb1; have HR1 := Lib.hid hr1; have HB1 := Lib.hid hb1; clear hr1 hb1)
    | (refine wpList_max rfl rfl .u64 _ _ _ rfl rfl (churnB_max k) ?_)
    | (go_at_call 27; refine (now_any w.heap.size F _ n c V s e hse _ HR1.out HS.out hs2 ((HV.out.below HB1.out).more HB1.out.size) HE.out hn).mono ?_; rintro r w2 ⟨rfl, hw2⟩; obtain rfl : w1 = w2 := hw2.symm; rw [HK.out]))
  go_ret
  exact ⟨rfl, HB1.out⟩
theorem run_cnv64 (w : World) (k : Nat) (hk : k ≤ 9223372036854775807) : (convert 3 22 (.int .i64 (k : Int))).run Tryd.prog w = .ok (.int .u64 (k : Int)) w := by
  have h3 : IntKind.u64.wrap (k : Int) = (k : Int) := by rw [IntKind.wrap_u64]; omega
  rw [show (.int .u64 (k : Int) : Value) = .int .u64 (IntKind.u64.wrap (k : Int)) by rw [h3]]
  simp [go_sem]

noncomputable def rewB (V : Nat → Value) (n i T : Nat) : Nat := if i < n then effF V i / 1000000000 * perB T else 0
def rewE (n i : Nat) : Int := if i < n then 0 else 1
theorem run_idxV (w : World) (ad : Addr) (n c i : Nat) (hi : i < n) : (Instr.indexAt 36 (.slice (some ad) n c) (.int .u64 (i : Int))).run Tryd.prog w = .ok (.pointer (some (ad.add (i * 86)))) w := by
  have hx : (0 : Int) ≤ (i : Int) ∧ (i : Int) < (n : Int) := by omega
  simp [go_sem, hi]
theorem run_ldV (w : World) (a : Addr) (A : Option Addr) (n c : Nat) (h : w.cell? a = some (.slice A n c)) : (Instr.loadAt 36 (.pointer (some a))).run Tryd.prog w = .ok (.slice A n c) w := by
  simp [go_sem, h]
theorem run_ldU (w : World) (a : Addr) (x : Int) (h : w.cell? a = some (.int .u64 x)) : (Instr.loadAt 22 (.pointer (some a))).run Tryd.prog w = .ok (.int .u64 x) w := by
  simp [go_sem, h]
theorem rew_le {a b : Nat} (h : a ≤ 32) (k : b ≤ 64000000000) : a * b ≤ 9223372036854775807 := by
  have := Nat.mul_le_mul h k
  omega

set_option maxHeartbeats 2000000 in
theorem reward_look (F : Nat → Value) (A : Option Addr) (n c : Nat) (V : Nat → Value) (s e : Nat) (hse : s / 4 = e) (i : Nat) (hi : i < 18446744073709551616) (w : World) (hs : F 33 = .int .u64 (s : Int)) (hs2 : s < 1099511627776) (hV : VOk w w.heap.size F A n c V) (he : ∀ i, i < n → effF V i ≤ 32000000000) (hn : n ≤ 65536) : Calls Tryd.prog 12 #[.agg (arr 1957 F), .int .u64 (i : Int)] w fun r w' => r = .returned (.tuple #[.int .u64 ((rewB V n i (totB (sumTo (aw V e) n)) : Nat) : Int), .int .i64 (rewE n i)]) ∧ Below w.heap.size w w' := by
  have HV := Lib.hid hV
  have HE := Lib.hid he
  have HS := Lib.hid hs
  have HI := Lib.hid hi
  have hle := hV.le
  unfold maxLen at hle
  by_cases h1 : i < n
  · have H1 : Hid (rewB V n i (totB (sumTo (aw V e) n)) = effF V i / 1000000000 * perB (totB (sumTo (aw V e) n))) := Lib.hid (if_pos h1)
    have H2 : Hid (rewE n i = 0) := Lib.hid (if_pos h1)
    have HTP := Lib.hid (totB_pos (sumTo (aw V e) n))
    have HTL : Hid (totB (sumTo (aw V e) n) < 18446744073709551616) := Lib.hid (by have hT : sumTo (aw V e) n ≤ n * 32000000000 := sumTo_small fun i hi => aw_le (he i hi); unfold totB; split <;> omega)
    have HPL := Lib.hid (perB_le (totB (sumTo (aw V e) n)))
    have HPD : Hid (64000000000 / isq (totB (sumTo (aw V e) n)) = perB (totB (sumTo (aw V e) n))) := Lib.hid rfl
    have h80 := he i h1
    obtain ⟨ad, rfl, hb2, -, hc2⟩ := hV.at_ h1
    have C80 := Lib.hid (hc2 80 (by omega) (by omega))
    obtain ⟨e80, -⟩ := (hV.sc _ h1).u64 80 (by kernel_rfl)
    have E80 : Hid (V (i * 86 + 80) = .int .u64 ((effF V i : Nat) : Int)) := Lib.hid e80
    have hq32 : effF V i / 1000000000 ≤ 32 := by omega
    clear hV he hs hi hc2 e80
    generalize hTT : totB (sumTo (aw V e) n) = T at *
    have HTT := Lib.hid hTT
    clear hTT
    go_enter Tryd.func12, Tryd.ntmps12
    go_wp2_with (first
      | (refine wpList_box rfl _ _ rfl 1957 F rfl ?_; intro w1 hr1 hb1; have HR1 := Lib.hid hr1; have HB1 := Lib.hid hb1; have h721 := hr1.cell (i := 721) (by omega); rw [HV.out.f] at h721; clear hr1 hb1)
      | (go_at_call 27; refine (now_any w.heap.size F _ n c V s e hse _ HR1.out HS.out hs2 ((HV.out.below HB1.out).more HB1.out.size) HE.out hn).mono ?_; rintro r w2 ⟨rfl, hw2⟩; obtain rfl : w1 = w2 := hw2.symm; rw [HTT.out]))
    have hlt1 : w.heap.size < w1.heap.size := HR1.out.lt
    have hb3 : ad.block < w1.heap.size := Nat.lt_of_lt_of_le hb2 HB1.out.size
    have C721 := Lib.hid h721
    have CC80 := Lib.hid ((HB1.out.cell (p := ⟨(ad.add (i * 86)).block, (ad.add (i * 86)).off + 80, none⟩) (by show (ad.add (i * 86)).block < _; rw [block_of_add]; exact hb2)).trans C80.out)
    have L49 := Lib.hid (ld_all HR1.out hlt1 Tryd.underlying49 rfl (by kernel_rfl))
    refine wp_region_facts (B := w1.heap.size) (w0 := w1) [SF.is (.pointer (some ⟨w.heap.size, 721, none⟩)), SF.is (.slice (some ad) (n) (c)), SF.is (.int .u64 ((i : Nat) : Int)), SF.is (.pointer (some (ad.add (i * 86)))), SF.is (.pointer (some ⟨(ad.add (i * 86)).block, (ad.add (i * 86)).off + 80, none⟩)), SF.is (.int .u64 ((effF V i : Nat) : Int)), SF.is (.int .u64 ((effF V i / 1000000000 : Nat) : Int)), SF.is (.int .u64 ((T : Nat) : Int)), SF.is (.int .u64 ((isq T : Nat) : Int)), SF.is (.int .u64 ((perB T : Nat) : Int)), SF.is (.int .u64 ((effF V i / 1000000000 * perB T : Nat) : Int)), SF.is (.int .u64 ((effF V i / 1000000000 * perB T : Nat) : Int)), SF.is (.int .i64 0)] (by kernel_rfl) (by kernel_rfl) rfl (Nat.le_refl _) (Below.refl _ _) ⟨?_, ?_, ?_, ?_, ?_, ?_, ?_, ?_, ?_, ?_, ?_, ?_, ?_, trivial⟩ ?_
    · exact opOb_fld rfl rfl (OpK.tmp rfl) (fun w => by simp [go_sem])
    · exact opOb_ld rfl rfl (OpK.tmp rfl) (fun w' hb => run_ldV w' _ _ _ _ ((hb.cell hlt1).trans C721.out))
    · exact (opOb_move _ rfl (.inl rfl) rfl)
    · exact opOb_idx rfl rfl (OpK.tmp rfl) (OpK.tmp rfl) (fun w => run_idxV w ad n c i h1)
    · exact opOb_fld rfl rfl (OpK.tmp rfl) (fun w => by simp [go_sem])
    · exact opOb_ld rfl rfl (OpK.tmp rfl) (fun w' hb => run_ldU w' _ _ (((hb.cell (p := ⟨(ad.add (i * 86)).block, (ad.add (i * 86)).off + 80, none⟩) (by show (ad.add (i * 86)).block < _; rw [block_of_add]; exact hb3)).trans CC80.out).trans (congrArg some E80.out)))
    · exact opOb_bin rfl rfl rfl (OpK.tmp rfl) OpK.const (fun w => run_quo64 w _ _ 1000000000 _ (by omega) rfl (by omega))
    · exact (opOb_move _ rfl (.inl rfl) rfl)
    · exact opOb_fn1 ent_root rfl rfl (OpK.tmp rfl) (fun w' hb => (root_look T HTL.out w').mono fun r w'' ⟨he', hb2⟩ => ⟨_, he', rfl, by subst hb2; exact Below.refl _ _⟩)
    · exact opOb_bin rfl rfl rfl OpK.const (OpK.tmp rfl) (fun w => run_quo64 w _ 64000000000 _ _ HTP.out HPD.out (by omega))
    · exact opOb_bin rfl rfl rfl (OpK.tmp rfl) (OpK.tmp rfl) (fun w => run_mul64 w _ _ _ _ rfl (rew_le hq32 HPL.out))
    · exact (opOb_move _ rfl (.inr rfl) rfl)
    · exact (opOb_const _ rfl (.inr rfl))
    · intro w' hb
      simp only [fin, SF.is, forall_eq]
      simp only [Act.put, List.setIfInBounds_toArray, List.set_cons_succ, List.set_cons_zero]
      go_wp2_with fail
      go_ret2
      rw [H1.out, H2.out]
      exact ⟨rfl, HB1.out.trans (hb.mono HB1.out.size)⟩
  · have H1 : Hid (rewB V n i (totB (sumTo (aw V e) n)) = 0) := Lib.hid (if_neg h1)
    have H2 : Hid (rewE n i = 1) := Lib.hid (if_neg h1)
    clear hV he hs hi
    generalize totB (sumTo (aw V e) n) = T at *
    go_enter Tryd.func12, Tryd.ntmps12
    go_wp2_with (refine wpList_box rfl _ _ rfl 1957 F rfl ?_; intro w1 hr1 hb1; have HR1 := Lib.hid hr1; have HB1 := Lib.hid hb1; have h721 := hr1.cell (i := 721) (by omega); rw [HV.out.f] at h721; clear hr1 hb1)
    go_ret2
    rw [H1.out, H2.out]
    exact ⟨rfl, HB1.out⟩

end Go.Proofs.YtjphchcjneofhaaDoor
