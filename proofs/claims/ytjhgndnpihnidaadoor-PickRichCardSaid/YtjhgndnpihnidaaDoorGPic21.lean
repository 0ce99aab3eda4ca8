/- A part of what the proofs stand on: PickTop, LookSeedRef, PickTopRef, PickAlone, PickAwake. -/
import Derived.Test.YtjhgndnpihnidaaDoorGPic19
import Derived.Test.YtjhgndnpihnidaaDoorGPic8
import Derived.Test.YtjhgndnpihnidaaDoorGPic20
import Derived.Test.YtjhgndnpihnidaaDoorGPic16
import Derived.Test.YtjhgndnpihnidaaDoorGPic13
import Derived.Test.YtjhgndnpihnidaaDoorGPic9
/- The walks of Proposer and Sync. (Printed by a program of mine.) -/
namespace Go.Proofs.YtjhgndnpihnidaaDoor
set_option maxRecDepth 40000
open Go.RowKit
namespace PickTop
theorem ent_actsL (vs : Array Value) (w : World) : (callFunc 46 vs).run Tryd.prog w = .ok (.enter 46 vs) w := by kernel_rfl
theorem ent_seedL (vs : Array Value) (w : World) : (callFunc 48 vs).run Tryd.prog w = .ok (.enter 48 vs) w := by kernel_rfl
theorem ent_behL (vs : Array Value) (w : World) : (callFunc 47 vs).run Tryd.prog w = .ok (.enter 47 vs) w := by kernel_rfl
theorem ent_drawL (vs : Array Value) (w : World) : (callFunc 45 vs).run Tryd.prog w = .ok (.enter 45 vs) w := by kernel_rfl
theorem acts_lookZ (F : Nat → Value) (A : Option Addr) (n c : Nat) (V : Nat → Value) (e L : Nat) (x : Nat → Nat) (hL : L = (actIx V e n).length) (hx : x = ax V e n) (w : World) (hV : VOk w w.heap.size F A n c V) (hn : n ≤ 65536) :
    Calls Tryd.prog 46 #[.agg (arr 1957 F), .int .u64 (e : Int)] w fun r w' => ∃ C cC, r = .returned (.slice C L cC) ∧ OwnZ w' w.heap.size 22 1 C L cC (u64v x) ∧ Below w.heap.size w w' :=
  (actives_look F A n c V e w hV hn).mono fun r w' ⟨C, cC, he, ho, hb⟩ => ⟨C, cC, by rw [he, hL], by unfold OwnZ; rw [Nat.mul_one, hL, hx]; exact ho, hb⟩
theorem quo4 (s e : Nat) (h : s / 4 = e) (hs : s < 1099511627776) (w : World) : (binOp .quo 22 (.int .u64 (s : Int)) (.int .u64 4)).run Tryd.prog w = .ok (.int .u64 ((e : Nat) : Int)) w := by
  subst h
  have h3 : (s : Int).tdiv 4 = ((s / 4 : Nat) : Int) := by rw [Int.tdiv_eq_ediv_of_nonneg (by omega)]; simp
  simp [go_sem, h3, IntKind.wrap, IntKind.bits, IntKind.signed]
  try omega
end PickTop
/-- Who proposes: the draw's list. -/
def propL (F V : Nat → Value) (n s : Nat) : List Nat := pickL (effF V) (ax V (s / 4) n) (behN (shaB (seedF 0 (s / 4) (mixN F (s / 4))) 44) s) (actIx V (s / 4) n).length 1
/-- The next sync committee. -/
def syncL (F V : Nat → Value) (n s : Nat) : List Nat := pickL (effF V) (ax V (s / 4 + 1) n) (shaB (seedF 7 (s / 4 + 1) (mixN F (s / 4 + 1))) 44) (actIx V (s / 4 + 1) n).length 8
open PickTop in
set_option maxHeartbeats 8000000 in
theorem proposer_look (F : Nat → Value) (hF : Sc F 49) (A : Option Addr) (n c : Nat) (V : Nat → Value) (s e : Nat) (hse : s / 4 = e) (w : World) (hs : F 33 = .int .u64 (s : Int)) (hs2 : s < 1099511627776) (hV : VOk w w.heap.size F A n c V) (hn : n ≤ 65536) (hp : ShaPkg w) :
    Calls Tryd.prog 14 #[.agg (arr 1957 F)] w fun r w' => r = .returned (.tuple #[.int .u64 (((propL F V n s).getD 0 0 : Nat) : Int), .int .i64 (pickE (propL F V n s))]) ∧ Below w.heap.size w w' := by
  have HV := Lib.hid hV
  have HS0 := Lib.hid (HS.nil w)
  have HP := Lib.hid hp
  have HSc := Lib.hid hF
  have HF33 := Lib.hid hs
  obtain ⟨L, hL⟩ : ∃ L, L = (actIx V e n).length := ⟨_, rfl⟩
  obtain ⟨x, hx⟩ : ∃ x, x = ax V e n := ⟨_, rfl⟩
  have HLn := Lib.hid hL
  have HXd := Lib.hid hx
  have hLn : L ≤ n := by rw [hL]; exact actIx_le V e n
  have HXn := Lib.hid (show ∀ q, q < L → x q < n by rw [hL, hx]; exact fun q hq => ax_lt hq)
  obtain ⟨sd, hsd⟩ : ∃ sd, sd = shaB (seedF 0 e (mixN F e)) 44 := ⟨_, rfl⟩
  obtain ⟨z, hz⟩ : ∃ z, z = behN sd s := ⟨_, rfl⟩
  obtain ⟨PL, hPL⟩ : ∃ PL, PL = propL F V n s := ⟨_, rfl⟩
  have HSd := Lib.hid hsd.symm
  have HZd := Lib.hid hz.symm
  have HSl := Lib.hid (show ∀ i, sd i < 256 from fun i => by rw [hsd]; exact shaB_lt _ _ i)
  have HZl := Lib.hid (show ∀ i, z i < 256 from fun i => by rw [hz]; exact behN_lt _ _ i)
  have HPd := Lib.hid (show pickL (effF V) x z L 1 = PL by rw [hPL, hx, hz, hsd, hL]; unfold propL; rw [hse])
  have HQ := Lib.hid (fun w => quo4 s e hse hs2 w)
  rw [← hPL]
  obtain ⟨m, hm⟩ : ∃ m, m = PL.length := ⟨_, rfl⟩
  obtain ⟨k, hk⟩ : ∃ k, k = pickE PL := ⟨_, rfl⟩
  have HMk := Lib.hid (And.intro hm.symm hk.symm)
  have hcase : (PL = [] ∧ m = 0 ∧ k = 7) ∨ (m = 1 ∧ k = 0) := by
    have h := pick_len (E := effF V) (l := x) (s := z) (n := L) (want := 1)
    rw [HPd.out] at h
    rcases h with h | h
    · have h2 : PL = [] := List.length_eq_zero_iff.1 h
      exact .inl ⟨h2, by rw [hm]; exact h, by rw [hk, h2]; rfl⟩
    · refine .inr ⟨by rw [hm]; exact h, ?_⟩
      rw [hk]
      unfold pickE; rw [if_neg (fun e => by rw [e] at h; cases h)]
  clear hV hp hF hs hL hx hsd hz hPL hse hm hk
  go_enter Tryd.func14, Tryd.ntmps14
  go_upto_region 2 with (first
    | (refine wpList_boxL rfl 49 _ 1 rfl rfl HS0.out 1957 F rfl ?_; intro b1 w1 hb1 hc1 hs; have HR1 := Lib.hid (hs.row 0 rfl); have HB1 := Lib.hid (hs.out (by simp; omega)); have hlt1 : b1 < w1.heap.size := hs.lt 0 rfl; have h33 := hs.cell 0 33 rfl (show 33 < 1957 by omega); rw [HF33.out] at h33; clear hs)
    | (refine wpList_as rfl 9 rfl (.int .u64 ((e : Nat) : Int)) ?_ ?_; (· exact ex_bin rfl rfl rfl rfl HQ.out _)))
  have L1 := Lib.hid (ld_all HR1.out hlt1 Tryd.underlying49 rfl (by kernel_rfl) (B := w1.heap.size))
  have HC33 : Hid (∀ w', Below w1.heap.size w1 w' → w'.cell? ⟨b1, 33, none⟩ = some (.int .u64 ((s : Nat) : Int))) := Lib.hid (fun w' hb => by rw [← HF33.out]; exact (row_below HR1.out hb hlt1).cell (show 33 < 1957 by omega))
  refine wp_region_facts (B := w1.heap.size) (w0 := w1) [SF.is (.agg (arr 1957 F)), SF.is (.int .u64 ((e : Nat) : Int)), SF.ownZ w.heap.size 22 1 L (u64v x), SF.is (.agg (arr 1957 F)), SF.is (.int .u64 ((e : Nat) : Int)), SF.is (rootV sd), SF.is (.pointer (some ⟨b1, 33, none⟩)), SF.is (.int .u64 ((s : Nat) : Int)), SF.is (rootV z), SF.tup w.heap.size 22 1 m (u64v fun j => PL.getD j 0) k, SF.tup w.heap.size 22 1 m (u64v fun j => PL.getD j 0) k, SF.ownZ w.heap.size 22 1 m (u64v fun j => PL.getD j 0), SF.is (.int .i64 k), SF.ownZ w.heap.size 22 1 m (u64v fun j => PL.getD j 0), SF.is (.int .i64 k)] (by kernel_rfl) (by kernel_rfl) rfl (Nat.le_refl _) (Below.refl _ _) ⟨?_, ?_, ?_, ?_, ?_, ?_, ?_, ?_, ?_, ?_, ?_, ?_, ?_, ?_, ?_, trivial⟩ ?_
  · exact opOb_ld rfl rfl (OpK.tmp rfl) (fun w' hb => L1.out w' hb)
  · exact (opOb_move _ rfl (.inl rfl) rfl)
  · exact opOb_fn2 ent_actsL rfl rfl (OpK.tmp rfl) (OpK.tmp rfl) (fun w' hb => (acts_lookZ F A n c V e L x HLn.out HXd.out w' ((HV.out.below (HB1.out.trans (hb.mono HB1.out.size))).more (Nat.le_trans HB1.out.size hb.size)) hn).mono fun r w'' ⟨C, cC, he', ho, hb2⟩ => ⟨_, he', ⟨C, cC, rfl, ho.mono (Nat.le_trans HB1.out.size hb.size)⟩, hb2⟩)
  · exact opOb_ld rfl rfl (OpK.tmp rfl) (fun w' hb => L1.out w' hb)
  · exact (opOb_move _ rfl (.inl rfl) rfl)
  · exact opOb_fn3 ent_seedL rfl rfl (OpK.tmp rfl) (OpK.tmp rfl) OpK.const (fun w' hb => (seed_look F HSc.out e 0 0 rfl w' (HP.out.below (HB1.out.trans (hb.mono HB1.out.size)))).mono fun r w'' ⟨he', hb2⟩ => ⟨_, by rw [he', HSd.out], rfl, hb2⟩)
  · exact opOb_fld rfl rfl (OpK.tmp rfl) (fun w => by simp [go_sem])
  · exact opOb_ld rfl rfl (OpK.tmp rfl) (fun w' hb => run_ld1 w' _ _ .u64 _ (HC33.out w' hb) Tryd.underlying22)
  · exact opOb_fn2 ent_behL rfl rfl (OpK.tmp rfl) (OpK.tmp rfl) (fun w' hb => (behind_look sd HSl.out s w' (HP.out.below (HB1.out.trans (hb.mono HB1.out.size)))).mono fun r w'' ⟨he', hb2⟩ => ⟨_, by rw [he', HZd.out], rfl, hb2⟩)
  · exact opOb_fn4S ent_drawL rfl rfl (OpK.tmp rfl) rfl (OpK.tmp rfl) OpK.const (fun w' v2 hb hv => by obtain ⟨A13, c13, rfl, ho13⟩ := hv; refine (draw_look b1 F A n c V A13 L c13 x z HZl.out 1 (by omega) (by omega) w' (row_below HR1.out hb hlt1) ((HV.out.below (HB1.out.trans (hb.mono HB1.out.size))).more (Nat.le_trans HB1.out.size hb.size)) (by have h := ho13.rd; rwa [Nat.mul_one] at h) HXn.out (by omega) (ShufLawOps.own_cap0 ho13) (HP.out.below (HB1.out.trans (hb.mono HB1.out.size)))).mono ?_; rintro e w2 ⟨A2, c2, rfl, ho, hb2⟩; rw [HPd.out] at ho; exact ⟨_, rfl, ⟨A2, c2, by rw [HPd.out, HMk.out.1, HMk.out.2], by rw [← HMk.out.1]; exact ho.mono (Nat.le_trans HB1.out.size hb.size)⟩, hb2⟩)
  · exact opOb_move _ rfl (.inl rfl) rfl
  · exact opOb_ext0 rfl rfl rfl
  · exact opOb_ext1 rfl rfl rfl
  · exact opOb_move _ rfl (.inr rfl) rfl
  · exact opOb_move _ rfl (.inr rfl) rfl
  · intro w' hb
    simp only [fin, SF.is, SF.ownZ, SF.tup, forall_eq]
    simp only [Act.put, List.setIfInBounds_toArray, List.set_cons_succ, List.set_cons_zero]
    rintro _ ⟨A13, c13, rfl, ho13⟩ _ ⟨A20, c20, rfl, _⟩ _ ⟨A10, c10, rfl, _⟩ _ ⟨A21, c21, rfl, ho21⟩ _ ⟨A5, c5, rfl, ho5⟩
    have HB2 := Lib.hid (HB1.out.trans (hb.mono HB1.out.size))
    rcases hcase with ⟨hP0, rfl, rfl⟩ | ⟨rfl, rfl⟩
    · have HP0 := Lib.hid hP0
      clear hP0 hb
      go_wp2_with fail
      go_ret2
      rw [HP0.out]
      exact ⟨rfl, HB2.out⟩
    · obtain ⟨a2, h2, _, _⟩ := ho5.rd (show 0 < 1 * 1 by omega)
      subst h2
      have HC2 := Lib.hid (ho5.rd.cells (show 0 < 1 * 1 by omega))
      clear hb ho5
      go_wp2_with (first
        | (refine wpList_as rfl 27 rfl (.pointer (some (a2.add (0 * 1)))) ?_ ?_; (· exact ex_idx rfl rfl rfl (fun w => run_idxZ (z := 1) (k := 0) w Tryd.underlying37 (by kernel_rfl) a2 (by omega)) _))
        | (refine wpList_as rfl 28 rfl (.int .u64 ((PL.getD 0 0 : Nat) : Int)) ?_ ?_; (· exact ex_ld1 .u64 rfl rfl Tryd.underlying22 HC2.out)))
      go_ret2
      rw [HMk.out.2]
      exact ⟨rfl, HB2.out⟩
open PickTop in
set_option maxHeartbeats 8000000 in
theorem sync_look (F : Nat → Value) (hF : Sc F 49) (A : Option Addr) (n c : Nat) (V : Nat → Value) (s e : Nat) (hse : s / 4 + 1 = e) (w : World) (hs : F 33 = .int .u64 (s : Int)) (hs2 : s < 1099511627776) (hV : VOk w w.heap.size F A n c V) (hn : n ≤ 65536) (hp : ShaPkg w) :
    Calls Tryd.prog 33 #[.agg (arr 1957 F)] w fun r w' => ∃ A' c', r = .returned (.tuple #[.slice A' (syncL F V n s).length c', .int .i64 (pickE (syncL F V n s))]) ∧ OwnZ w' w.heap.size 22 1 A' (syncL F V n s).length c' (u64v fun j => (syncL F V n s).getD j 0) ∧ Below w.heap.size w w' := by
  have HV := Lib.hid hV
  have HS0 := Lib.hid (HS.nil w)
  have HP := Lib.hid hp
  have HSc := Lib.hid hF
  have HF33 := Lib.hid hs
  obtain ⟨L, hL⟩ : ∃ L, L = (actIx V e n).length := ⟨_, rfl⟩
  obtain ⟨x, hx⟩ : ∃ x, x = ax V e n := ⟨_, rfl⟩
  have HLn := Lib.hid hL
  have HXd := Lib.hid hx
  have hLn : L ≤ n := by rw [hL]; exact actIx_le V e n
  have HXn := Lib.hid (show ∀ q, q < L → x q < n by rw [hL, hx]; exact fun q hq => ax_lt hq)
  obtain ⟨z, hz⟩ : ∃ sd, sd = shaB (seedF 7 e (mixN F e)) 44 := ⟨_, rfl⟩
  obtain ⟨PL, hPL⟩ : ∃ PL, PL = syncL F V n s := ⟨_, rfl⟩
  have HZd := Lib.hid hz.symm
  have HZl := Lib.hid (show ∀ i, z i < 256 from fun i => by rw [hz]; exact shaB_lt _ _ i)
  have HPd := Lib.hid (show pickL (effF V) x z L 8 = PL by rw [hPL, hx, hz, hL]; unfold syncL; rw [hse])
  obtain ⟨e0, he0⟩ : ∃ e0, s / 4 = e0 := ⟨_, rfl⟩
  have HQ := Lib.hid (fun w => quo4 s e0 he0 hs2 w)
  have HQ2 := Lib.hid (fun w => (ShufFn.addU e0 1 w (by omega)).trans (by rw [show e0 + 1 = e by omega]))
  rw [← hPL]
  obtain ⟨m, hm⟩ : ∃ m, m = PL.length := ⟨_, rfl⟩
  obtain ⟨k, hk⟩ : ∃ k, k = pickE PL := ⟨_, rfl⟩
  have HMk := Lib.hid (And.intro hm.symm hk.symm)
  clear hV hp hF hs hL hx hz hPL hse he0 hm hk
  go_enter Tryd.func33, Tryd.ntmps33
  go_upto_region 2 with (first
    | (refine wpList_boxL rfl 49 _ 1 rfl rfl HS0.out 1957 F rfl ?_; intro b1 w1 hb1 hc1 hs; have HR1 := Lib.hid (hs.row 0 rfl); have HB1 := Lib.hid (hs.out (by simp; omega)); have hlt1 : b1 < w1.heap.size := hs.lt 0 rfl; have h33 := hs.cell 0 33 rfl (show 33 < 1957 by omega); rw [HF33.out] at h33; clear hs)
    | (refine wpList_as rfl 7 rfl (.int .u64 ((e0 : Nat) : Int)) ?_ ?_; (· exact ex_bin rfl rfl rfl rfl HQ.out _))
    | (refine wpList_as rfl 8 rfl (.int .u64 ((e : Nat) : Int)) ?_ ?_; (· exact ex_bin rfl rfl rfl rfl HQ2.out _)))
  have L1 := Lib.hid (ld_all HR1.out hlt1 Tryd.underlying49 rfl (by kernel_rfl) (B := w1.heap.size))
  have HC33 : Hid (∀ w', Below w1.heap.size w1 w' → w'.cell? ⟨b1, 33, none⟩ = some (.int .u64 ((s : Nat) : Int))) := Lib.hid (fun w' hb => by rw [← HF33.out]; exact (row_below HR1.out hb hlt1).cell (show 33 < 1957 by omega))
  refine wp_region_facts (B := w1.heap.size) (w0 := w1) [SF.is (.agg (arr 1957 F)), SF.is (.int .u64 ((e : Nat) : Int)), SF.ownZ w.heap.size 22 1 L (u64v x), SF.is (.agg (arr 1957 F)), SF.is (.int .u64 ((e : Nat) : Int)), SF.is (rootV z), SF.tup w.heap.size 22 1 m (u64v fun j => PL.getD j 0) k, SF.ownZ w.heap.size 22 1 m (u64v fun j => PL.getD j 0), SF.is (.int .i64 k), SF.ownZ w.heap.size 22 1 m (u64v fun j => PL.getD j 0), SF.is (.int .i64 k)] (by kernel_rfl) (by kernel_rfl) rfl (Nat.le_refl _) (Below.refl _ _) ⟨?_, ?_, ?_, ?_, ?_, ?_, ?_, ?_, ?_, ?_, ?_, trivial⟩ ?_
  · exact opOb_ld rfl rfl (OpK.tmp rfl) (fun w' hb => L1.out w' hb)
  · exact (opOb_move _ rfl (.inl rfl) rfl)
  · exact opOb_fn2 ent_actsL rfl rfl (OpK.tmp rfl) (OpK.tmp rfl) (fun w' hb => (acts_lookZ F A n c V e L x HLn.out HXd.out w' ((HV.out.below (HB1.out.trans (hb.mono HB1.out.size))).more (Nat.le_trans HB1.out.size hb.size)) hn).mono fun r w'' ⟨C, cC, he', ho, hb2⟩ => ⟨_, he', ⟨C, cC, rfl, ho.mono (Nat.le_trans HB1.out.size hb.size)⟩, hb2⟩)
  · exact opOb_ld rfl rfl (OpK.tmp rfl) (fun w' hb => L1.out w' hb)
  · exact (opOb_move _ rfl (.inl rfl) rfl)
  · exact opOb_fn3 ent_seedL rfl rfl (OpK.tmp rfl) (OpK.tmp rfl) OpK.const (fun w' hb => (seed_look F HSc.out e 7 7 rfl w' (HP.out.below (HB1.out.trans (hb.mono HB1.out.size)))).mono fun r w'' ⟨he', hb2⟩ => ⟨_, by rw [he', HZd.out], rfl, hb2⟩)
  · exact opOb_fn4S ent_drawL rfl rfl (OpK.tmp rfl) rfl (OpK.tmp rfl) OpK.const (fun w' v2 hb hv => by obtain ⟨A13, c13, rfl, ho13⟩ := hv; refine (draw_look b1 F A n c V A13 L c13 x z HZl.out 8 (by omega) (by omega) w' (row_below HR1.out hb hlt1) ((HV.out.below (HB1.out.trans (hb.mono HB1.out.size))).more (Nat.le_trans HB1.out.size hb.size)) (by have h := ho13.rd; rwa [Nat.mul_one] at h) HXn.out (by omega) (ShufLawOps.own_cap0 ho13) (HP.out.below (HB1.out.trans (hb.mono HB1.out.size)))).mono ?_; rintro e w2 ⟨A2, c2, rfl, ho, hb2⟩; rw [HPd.out] at ho; exact ⟨_, rfl, ⟨A2, c2, by rw [HPd.out, HMk.out.1, HMk.out.2], by rw [← HMk.out.1]; exact ho.mono (Nat.le_trans HB1.out.size hb.size)⟩, hb2⟩)
  · exact opOb_ext0 rfl rfl rfl
  · exact opOb_ext1 rfl rfl rfl
  · exact opOb_move _ rfl (.inr rfl) rfl
  · exact opOb_move _ rfl (.inr rfl) rfl
  · intro w' hb
    simp only [fin, SF.is, SF.ownZ, SF.tup, forall_eq]
    simp only [Act.put, List.setIfInBounds_toArray, List.set_cons_succ, List.set_cons_zero]
    rintro _ ⟨A13, c13, rfl, ho13⟩ _ ⟨A15, c15, rfl, _⟩ _ ⟨A16, c16, rfl, ho16⟩ _ ⟨A2, c2, rfl, ho2⟩
    have HB2 := Lib.hid (HB1.out.trans (hb.mono HB1.out.size))
    have HO2 := Lib.hid ho2
    clear hb ho2
    go_wp2_with fail
    go_ret2
    rw [HMk.out.1, HMk.out.2]
    exact ⟨A2, c2, rfl, HO2.out, HB2.out⟩
end Go.Proofs.YtjhgndnpihnidaaDoor
/- Seeds, by the reference. (Printed by a program of mine.) -/
namespace Go.Proofs.YtjhgndnpihnidaaDoor
set_option maxRecDepth 40000
open Go.RowKit
namespace SeedRef
theorem u8_info : (Tryd.prog.info? 5).map (fun i => (i.zero, i.size, i.bytes)) = some (some (.int .u8 0), 1, 1) := by kernel_rfl
theorem cat_Fn (k : Nat) (x y : Nat → Nat) (n : Nat) : ∀ i, i < n → catF k (u8v x) (u8v y) i = u8v (catN k x y) i := fun i _ => by
  simp only [catF, u8v, catN]; split <;> rfl
end SeedRef
theorem wrap_idx2 {P : Program} (E : Nat) (w : World) {o : Oper} {a : Act} {x : Operand} {t : TypeId} (ho : o.op = .binOp .rem t x (.const (.int .u64 8)) t) (hx : a.eval x = .int .u64 ((E : Int) % 8 + 8 - 1 - 1)) : (execOp a.eval o).run P w = .ok (.value (.int .u64 (((E + 6) % 8 : Nat) : Int))) w := by
  unfold execOp
  rw [ho]
  simp only [hx]
  simp [Act.eval, go_sem]
  rw [Int.tmod_eq_emod_of_nonneg (by omega)]
  omega
open SeedRef in
set_option maxHeartbeats 4000000 in
theorem seed_ref (F : Nat → Value) (hF : Sc F 49) (E : Nat) (k : Int) (K : Nat) (hk : k % 4294967296 = (K : Int)) (w : World) (hp : RefPkg w) :
    Calls Tryd.prog 50 #[.agg (arr 1957 F), .int .u64 (E : Int), .int .i64 k] w fun r w' => r = .returned (rootV (shaB (seedF K E (mixN F E)) 44)) ∧ Below w.heap.size w w' := by
  have HP := Lib.hid hp
  have HSc := Lib.hid hF
  have HK := Lib.hid hk
  have HM := Lib.hid (show ((E + 6) % 8 : Nat) < 8 from Nat.mod_lt _ (by omega))
  have hlt := hp.lt
  clear hp hF hk
  have tok1 := Tok.mk 1
  go_enter Tryd.func50, Tryd.ntmps50
  go_wp2_with (first
    | (refine wpList_box rfl _ _ rfl 1957 F rfl ?_; intro w1 hr1 hb1; have HB0 := Lib.hid (((HS.nil w).below hb1).add hr1 (Nat.le_refl _) (by simp)); have hsz : w.heap.size ≤ w1.heap.size := hb1.size; clear hr1 hb1)
    | (have hx : Tok 1 := (by assumption); clear hx; refine wpList_allocH rfl 24 rfl HB0.out (Array.replicate 32 (.int .u8 0)) (by kernel_rfl) 32 (u8v fun _ => 0) (by rfl) (zero_at 32 (.int .u8 0)) ?_; intro w2 hs2'; have hsz2 : w1.heap.size < w2.heap.size := hs2'.lt 0 rfl; have HS2 := Lib.hid hs2'; clear hs2')
    | (go_at_call 51; have hx : Tok 1 := (by assumption); clear hx tok1; rw [HK.out]; refine (bytes_ref K _).mono ?_; rintro e w3 ⟨rfl, hb3⟩; have hsz3 := hb3.size; have HS3 := Lib.hid (HS2.out.below hb3); clear hb3; have tok2 := Tok.mk 2)
    | (have hx : Tok 2 := (by assumption); refine wpList_allocH rfl 103 rfl HS3.out (Array.replicate 8 (.int .u8 0)) (by kernel_rfl) 8 (u8v fun _ => 0) (by rfl) (zero_at 8 (.int .u8 0)) ?_; clear hx tok2; intro w4 hs; have HAa := Lib.hid hs; clear hs; have tok3 := Tok.mk 3)
    | (have hx : Tok 3 := (by assumption); refine wpList_storeH rfl 103 (.tmp 7) (.tmp 13) rfl HAa.out 0 rfl (u8v (leB K)) rfl rfl (by kernel_rfl) (fun _ _ => rfl) ?_; clear hx tok3; intro w4s hs; have HA := Lib.hid hs; clear hs HAa; have tok4 := Tok.mk 4)
    | (go_at_call 51; have hx : Tok 4 := (by assumption); clear hx tok4; refine (bytes_ref E _).mono ?_; rintro e w5 ⟨rfl, hb5⟩; have HS5 := Lib.hid (HA.out.below hb5); have hsz5 : w3.heap.size < w5.heap.size := HS5.out.lt 0 rfl; clear hb5; have tok5 := Tok.mk 5)
    | (have hx : Tok 5 := (by assumption); refine wpList_allocH rfl 103 rfl HS5.out (Array.replicate 8 (.int .u8 0)) (by kernel_rfl) 8 (u8v fun _ => 0) (by rfl) (zero_at 8 (.int .u8 0)) ?_; clear hx tok5; intro w6 hs; have HBa := Lib.hid hs; clear hs; have tok6 := Tok.mk 6)
    | (have hx : Tok 6 := (by assumption); refine wpList_storeH rfl 103 (.tmp 8) (.tmp 15) rfl HBa.out 0 rfl (u8v (leB E)) rfl rfl (by kernel_rfl) (fun _ _ => rfl) ?_; clear hx tok6; intro w6s hs; have HB := Lib.hid hs; clear hs HBa; have tok7 := Tok.mk 7)
    | (have hx : Tok 7 := (by assumption); refine wpList_as rfl 21 rfl (.int .u64 (((E + 6) % 8 : Nat) : Int)) ?_ ?_; (· exact wrap_idx2 (P := Tryd.prog) E w6s rfl rfl); clear hx tok7; generalize hI : (E + 6) % 8 = I at *; have HI := Lib.hid hI; have hI8 := HM.out; clear hI; have tok8 := Tok.mk 8)
    | (have hx : Tok 8 := (by assumption); refine wpList_load_rd rfl 24 _ rfl 32 _ Tryd.underlying24 rfl (by kernel_rfl) ⟨w.heap.size, 723 + I * 32, none⟩ rfl (u8v (mixN F E)) (fun q hq => by rw [add_litO, ← mix_eq HSc.out E q hq, HI.out]; exact HB.out.cell 3 (723 + I * 32 + q) rfl (by omega)) ?_; clear hx tok8; have tok9 := Tok.mk 9)
    | (have hx : Tok 9 := (by assumption); refine wpList_allocH rfl 24 rfl HB.out (Array.replicate 32 (.int .u8 0)) (by kernel_rfl) 32 (u8v fun _ => 0) (by rfl) (zero_at 32 (.int .u8 0)) ?_; clear hx tok9; intro w9 hs; have HCa := Lib.hid hs; clear hs; have tok10 := Tok.mk 10)
    | (have hx : Tok 10 := (by assumption); refine wpList_storeH rfl 24 (.tmp 9) (.tmp 24) rfl HCa.out 0 rfl (u8v (mixN F E)) rfl rfl (by kernel_rfl) (fun _ _ => rfl) ?_; clear hx tok10; intro w9s hs; have HC := Lib.hid hs; clear hs HCa; have tok11 := Tok.mk 11))
  obtain ⟨b7, hb7⟩ : ∃ b, b = w3.heap.size := ⟨_, rfl⟩
  obtain ⟨b8, hb8⟩ : ∃ b, b = w5.heap.size := ⟨_, rfl⟩
  obtain ⟨b9, hb9⟩ : ∃ b, b = w6s.heap.size := ⟨_, rfl⟩
  have hs : HS w w9s [⟨w6s.heap.size, 24, 32, u8v (mixN F E)⟩, ⟨w5.heap.size, 103, 8, u8v (leB E)⟩, ⟨w3.heap.size, 103, 8, u8v (leB K)⟩, ⟨w1.heap.size, 24, 32, u8v fun _ => 0⟩, ⟨w.heap.size, 49, 1957, F⟩] := HC.out
  rw [← hb7, ← hb8, ← hb9] at hs ⊢
  have h56 : w5.heap.size < w6s.heap.size := HB.out.lt 0 rfl
  have hw7 : w.heap.size ≤ b7 := by omega
  have hw8 : w.heap.size ≤ b8 := by omega
  have hw9 : w.heap.size ≤ b9 := by omega
  have h79 : b7 < b9 := by omega
  clear HA HB HC HB0 HS2 HS3 HS5 HSc hb7 hb8 hb9 hsz3 hsz5 h56
  obtain ⟨wr, hwr⟩ : ∃ wr, wr = w9s := ⟨_, rfl⟩
  rw [← hwr] at hs ⊢
  have R9 := Lib.hid (hs.row 0 rfl)
  have R8 := Lib.hid (hs.row 1 rfl)
  have R7 := Lib.hid (hs.row 2 rfl)
  have HW := Lib.hid hs
  clear hs hwr
  refine wp_region_own (l := [_, _, _, _, _, _, _]) (tl := [_, _]) (B := wr.heap.size) (w0 := wr) [OF.own0 wr.heap.size 5, OF.is (.slice (some ⟨b7, 0, none⟩) (4) (8)), OF.own wr.heap.size 5 4 (u8v (leB K)), OF.is (.slice (some ⟨b8, 0, none⟩) (8) (8)), OF.own wr.heap.size 5 12 (u8v (catN 4 (leB K) (leB E))), OF.is (.slice (some ⟨b9, 0, none⟩) (32) (32)), OF.own wr.heap.size 5 44 (u8v (seedF K E (mixN F E)))] [none, none, some 25, none, some 27, none, some 29] [true, false, true, false, true, false, false] (by kernel_rfl) (by kernel_rfl) rfl (Nat.le_refl _) (Below.refl _ _) ⟨?_, ?_, ?_, ?_, ?_, ?_, ?_, trivial⟩ ?_
  · exact opObO_bs0 rfl rfl run_bs0_u8 _ (Nat.le_refl _)
  · exact opObO_is (opOb_slc rfl rfl (OpK.tmp rfl) (OpKo.no) (OpKo.const) (fun w => cut_arr Tryd.underlying103 1 (by kernel_rfl) none (some _) (0) (4) (.inl ⟨rfl, rfl⟩) (.inr rfl) (by omega) (by omega) (by omega) (by omega) (by omega) (by omega)))
  · exact opObO_app0 (s := 25) wr.heap.size u8_info Tryd.underlying39 rfl rfl rfl (by rfl) (OpK.tmp rfl) (fun w' hb => ((Rd.of_row (row_below (B := wr.heap.size) R7.out hb R7.out.lt) (Nat.le_refl _) (Nat.lt_succ_self _)) : Rd w' _ _ 8 _).short (by omega)) (fun _ _ => rfl) (by omega) (Nat.le_refl _)
  · exact opObO_is (opOb_slc rfl rfl (OpK.tmp rfl) (OpKo.no) (OpKo.no) (fun w => cut_arr Tryd.underlying103 1 (by kernel_rfl) none none (0) (8) (.inl ⟨rfl, rfl⟩) (.inl ⟨rfl, rfl⟩) (by omega) (by omega) (by omega) (by omega) (by omega) (by omega)))
  · exact opObO_app (s := 27) wr.heap.size u8_info Tryd.underlying39 rfl rfl rfl (by rfl) (Nat.le_refl _) (OpK.tmp rfl) (fun w' hb => Rd.of_row (row_below (B := wr.heap.size) R8.out hb R8.out.lt) (Nat.le_refl _) (Nat.lt_succ_self _)) (fun _ _ => rfl) 12 (u8v (catN 4 (leB K) (leB E))) rfl (cat_Fn 4 (leB K) (leB E) 12) (by omega) (Nat.le_refl _)
  · exact opObO_is (opOb_slc rfl rfl (OpK.tmp rfl) (OpKo.no) (OpKo.no) (fun w => cut_arr Tryd.underlying24 1 (by kernel_rfl) none none (0) (32) (.inl ⟨rfl, rfl⟩) (.inl ⟨rfl, rfl⟩) (by omega) (by omega) (by omega) (by omega) (by omega) (by omega)))
  · exact opObO_app (s := 29) wr.heap.size u8_info Tryd.underlying39 rfl rfl rfl (by rfl) (Nat.le_refl _) (OpK.tmp rfl) (fun w' hb => Rd.of_row (row_below (B := wr.heap.size) R9.out hb R9.out.lt) (Nat.le_refl _) (Nat.lt_succ_self _)) (fun _ _ => rfl) 44 (u8v (seedF K E (mixN F E))) rfl (cat_Fn 12 (catN 4 (leB K) (leB E)) (mixN F E) 44) (by omega) (Nat.le_refl _)
  · intro w' hb
    simp only [finO, OF.is, OF.own, forall_eq]
    rintro _ _ _ _ ⟨A31, c31, rfl, ho31⟩
    simp only [Act.put, List.setIfInBounds_toArray, List.set_cons_succ, List.set_cons_zero]
    have hb4 := hb
    have hs4 := HW.out.below hb4
    clear hb
    refine wp_fn ent_refSum #[.slice A31 44 c31] rfl rfl ?_
    refine (refSum_any 44 c31 A31 (seedF K E (mixN F E)) w' ho31.rd (seedF_lt (mixN_lt F E)) (by omega) (HP.out.below (hs4.out (by simp; omega)))).mono ?_
    rintro e w5' ⟨rfl, hb5⟩
    have hs5 := hs4.below hb5
    refine ⟨_, rfl, ?_⟩
    refine wp_sto_arr rfl (hs5.row 3 rfl) _ rfl rfl (size_arr _ _) (by kernel_rfl) (fun i hi => ⟨_, arr_at _ _ i hi, rfl⟩) ?_
    have hend := hs5.setRow 3 rfl (arr 32 (u8v (shaB (seedF K E (mixN F E)) 44))) (size_arr _ _) _ (fun i hi => arr_at _ _ i hi)
    have HE := Lib.hid hend
    clear hs4 hs5 hend hb4 hb5 ho31
    simp only [seqWp]
    go_wp2_with fail
    exact ret_rowIs rfl (HE.out.row 3 rfl) _ rfl Tryd.underlying24 rfl (by kernel_rfl) rfl ⟨rfl, HE.out.out (by simp; omega)⟩
end Go.Proofs.YtjhgndnpihnidaaDoor
/- The walks of the reference's Proposer and Sync. (Printed by a program of mine.) -/
namespace Go.Proofs.YtjhgndnpihnidaaDoor
set_option maxRecDepth 40000
open Go.RowKit
namespace PickTopRef
theorem ent_actsR (vs : Array Value) (w : World) : (callFunc 18 vs).run Tryd.prog w = .ok (.enter 18 vs) w := by kernel_rfl
theorem ent_seedR (vs : Array Value) (w : World) : (callFunc 50 vs).run Tryd.prog w = .ok (.enter 50 vs) w := by kernel_rfl
theorem ent_drawR (vs : Array Value) (w : World) : (callFunc 52 vs).run Tryd.prog w = .ok (.enter 52 vs) w := by kernel_rfl
theorem acts_refO (F : Nat → Value) (A : Option Addr) (n c : Nat) (V : Nat → Value) (e L : Nat) (x : Nat → Nat) (hL : L = (actIx V e n).length) (hx : x = ax V e n) (w : World) (hV : VOk w w.heap.size F A n c V) (hn : n ≤ 65536) :
    Calls Tryd.prog 18 #[.agg (arr 1957 F), .int .u64 (e : Int)] w fun r w' => ∃ C cC, r = .returned (.slice C L cC) ∧ Own w' w.heap.size 22 C L cC (u64v x) ∧ Below w.heap.size w w' :=
  (actives_ref F A n c V e w hV hn).mono fun r w' ⟨C, cC, he, ho, hb⟩ => ⟨C, cC, by rw [he, hL], by rw [hL, hx]; exact ho, hb⟩
theorem own_Z {w : World} {base n c : Nat} {e : TypeId} {A : Option Addr} {f : Nat → Value} (h : Own w base e A n c f) : OwnZ w base e 1 A n c f := by
  unfold OwnZ; rw [Nat.mul_one]; exact h
theorem ex_ext {P : Program} {o : Oper} {a : Act} {x : Operand} {cs : Array Value} {i : Nat} {v : Value} (ho : o.op = .extract x i) (hx : a.eval x = .tuple cs) (hi : cs[i]? = some v) : ∀ w, (execOp a.eval o).run P w = .ok (.value v) w := fun w => by
  unfold execOp
  rw [ho]
  simp only [hx]
  simp [Instr.extract, hi]
end PickTopRef
open PickTop PickTopRef ShufRef in
set_option maxHeartbeats 8000000 in
theorem proposer_ref (F : Nat → Value) (hF : Sc F 49) (A : Option Addr) (n c : Nat) (V : Nat → Value) (s e : Nat) (hse : s / 4 = e) (w : World) (hs : F 33 = .int .u64 (s : Int)) (hs2 : s < 1099511627776) (hV : VOk w w.heap.size F A n c V) (hn : n ≤ 65536) (hp : RefPkg w) :
    Calls Tryd.prog 15 #[.agg (arr 1957 F)] w fun r w' => r = .returned (.tuple #[.int .u64 (((propL F V n s).getD 0 0 : Nat) : Int), .int .i64 (pickE (propL F V n s))]) ∧ Below w.heap.size w w' := by
  have HV := Lib.hid hV
  have HS0 := Lib.hid (HS.nil w)
  have HP := Lib.hid hp
  have HSc := Lib.hid hF
  have HF33 := Lib.hid hs
  obtain ⟨L, hL⟩ : ∃ L, L = (actIx V e n).length := ⟨_, rfl⟩
  obtain ⟨x, hx⟩ : ∃ x, x = ax V e n := ⟨_, rfl⟩
  have HLn := Lib.hid hL
  have HXd := Lib.hid hx
  have hLn : L ≤ n := by rw [hL]; exact actIx_le V e n
  have HXn := Lib.hid (show ∀ q, q < L → x q < n by rw [hL, hx]; exact fun q hq => ax_lt hq)
  obtain ⟨sd, hsd⟩ : ∃ sd, sd = shaB (seedF 0 e (mixN F e)) 44 := ⟨_, rfl⟩
  obtain ⟨z, hz⟩ : ∃ z, z = behN sd s := ⟨_, rfl⟩
  obtain ⟨PL, hPL⟩ : ∃ PL, PL = propL F V n s := ⟨_, rfl⟩
  have HSd := Lib.hid hsd.symm
  have HZs := Lib.hid (show shaB (catN 32 sd (leB s)) 40 = z by rw [hz]; rfl)
  have HSl := Lib.hid (show ∀ i, sd i < 256 from fun i => by rw [hsd]; exact shaB_lt _ _ i)
  have HZl := Lib.hid (show ∀ i, z i < 256 from fun i => by rw [hz]; exact behN_lt _ _ i)
  have HCl := Lib.hid (show ∀ i, (catN 32 sd (leB s)) i < 256 from catN_lt HSl.out (leB_lt s))
  have HPd := Lib.hid (show pickL (effF V) x z L 1 = PL by rw [hPL, hx, hz, hsd, hL]; unfold propL; rw [hse])
  have HSe := Lib.hid hse
  rw [← hPL]
  obtain ⟨m, hm⟩ : ∃ m, m = PL.length := ⟨_, rfl⟩
  obtain ⟨k, hk⟩ : ∃ k, k = pickE PL := ⟨_, rfl⟩
  have HMk := Lib.hid (And.intro hm.symm hk.symm)
  have hcase : (PL = [] ∧ m = 0 ∧ k = 7) ∨ (m = 1 ∧ k = 0) := by
    have h := pick_len (E := effF V) (l := x) (s := z) (n := L) (want := 1)
    rw [HPd.out] at h
    rcases h with h | h
    · have h2 : PL = [] := List.length_eq_zero_iff.1 h
      exact .inl ⟨h2, by rw [hm]; exact h, by rw [hk, h2]; rfl⟩
    · refine .inr ⟨by rw [hm]; exact h, ?_⟩
      rw [hk]
      unfold pickE; rw [if_neg (fun e => by rw [e] at h; cases h)]
  clear hV hp hF hs hL hx hsd hz hPL hse hm hk
  have tok1 := Tok.mk 1
  go_enter Tryd.func15, Tryd.ntmps15
  go_upto_region 4 with (first
    | (refine wpList_boxL rfl 49 _ 1 rfl rfl HS0.out 1957 F rfl ?_; intro b1 w1 hb1 hc1 hs; have HR1 := Lib.hid (hs.row 0 rfl); have HB1 := Lib.hid (hs.out (by simp; omega)); have hlt1 : b1 < w1.heap.size := hs.lt 0 rfl; have h33 := hs.cell 0 33 rfl (show 33 < 1957 by omega); rw [HF33.out] at h33; have HS1 := Lib.hid hs; clear hs)
    | (have hx : Tok 1 := (by assumption); clear hx; refine wpList_load_rd rfl 49 _ rfl 1957 _ Tryd.underlying49 rfl (by kernel_rfl) ⟨b1, 0, none⟩ rfl F (fun i hi => by rw [add_lit0]; exact (HR1.out).cell hi) ?_)
    | (go_at_call 49; have hx : Tok 1 := (by assumption); refine (epoch_ref F s e HSe.out HF33.out hs2 _).mono ?_; clear hx tok1; rintro r w2 ⟨rfl, hb⟩; have HS2 := Lib.hid (HS1.out.below hb); clear hb; have tok2 := Tok.mk 2)
    | (have hx : Tok 2 := (by assumption); clear hx; refine wpList_load_rd rfl 49 _ rfl 1957 _ Tryd.underlying49 rfl (by kernel_rfl) ⟨b1, 0, none⟩ rfl F (fun i hi => by rw [add_lit0]; exact (HS2.out.row 0 rfl).cell hi) ?_)
    | (go_at_call 50; have hx : Tok 2 := (by assumption); refine (seed_ref F HSc.out e 0 0 rfl _ (HP.out.below (HS2.out.out (by simp; omega)))).mono ?_; clear hx tok2; rintro r w3 ⟨rfl, hb⟩; rw [HSd.out]; have HS3 := Lib.hid (HS2.out.below hb); clear hb)
    | (refine wpList_allocL rfl 24 5 rfl rfl HS3.out (Array.replicate 32 (.int .u8 0)) (by kernel_rfl) 32 (u8v fun _ => 0) (by rfl) (zero_at 32 (.int .u8 0)) ?_; intro b5 w4 hb5 hc5 hs; have HS4 := Lib.hid hs; clear hs)
    | (refine wpList_storeH rfl 24 (.tmp 5) (.tmp 13) rfl HS4.out 0 rfl (u8v sd) rfl rfl (by kernel_rfl) (fun _ _ => rfl) ?_; intro w5 hs; have HS5 := Lib.hid hs; have h15 := hs.cell 1 33 rfl (show 33 < 1957 by omega); rw [HF33.out] at h15; clear hs)
    | (go_at_call 51; refine (bytes_ref s _).mono ?_; rintro e w6 ⟨rfl, hb⟩; have HS6 := Lib.hid (HS5.out.below hb); clear hb)
    | (refine wpList_allocL rfl 103 6 rfl rfl HS6.out (Array.replicate 8 (.int .u8 0)) (by kernel_rfl) 8 (u8v fun _ => 0) (by rfl) (zero_at 8 (.int .u8 0)) ?_; intro b6 w7 hb6 hc6 hs; have HS7 := Lib.hid hs; clear hs)
    | (refine wpList_storeH rfl 103 (.tmp 6) (.tmp 16) rfl HS7.out 0 rfl (u8v (leB s)) rfl rfl (by kernel_rfl) (fun _ _ => rfl) ?_; intro wb hs; have HSb := Lib.hid hs; clear hs))
  have R1 := Lib.hid (show wb.rowIs b1 49 1957 F from HSb.out.row 2 rfl)
  have R5 := Lib.hid (show wb.rowIs b5 24 32 (u8v sd) from HSb.out.row 1 rfl)
  have R6 := Lib.hid (show wb.rowIs b6 103 8 (u8v (leB s)) from HSb.out.row 0 rfl)
  have HBb := Lib.hid (HSb.out.out (by simp; omega))
  have LB := Lib.hid (ld_all R1.out R1.out.lt Tryd.underlying49 rfl (by kernel_rfl) (B := wb.heap.size))
  clear HSb HS7 HS6 HS5 HS4 HS3 HS2 HS1 HS0 HR1 HB1 h33 h15
  refine wp_region_ownA (l := [_, _, _, _, _, _, _, _, _, _]) (tl := [_, _, _, _, _, _]) (B := wb.heap.size) (w0 := wb) [OF.is (.agg (arr 1957 F)), OF.is (.agg (arr 1957 F)), OF.is (.int .u64 ((e : Nat) : Int)), OF.own wb.heap.size 22 L (u64v x), OF.own0 wb.heap.size 5, OF.is (.slice (some ⟨b5, 0, none⟩) (32) (32)), OF.own wb.heap.size 5 32 (u8v sd), OF.is (.slice (some ⟨b6, 0, none⟩) (8) (8)), OF.own wb.heap.size 5 40 (u8v (catN 32 sd (leB s))), OF.is (rootV z)] [none, none, none, none, none, none, some 22, none, some 24, none] [false, false, false, false, true, false, true, false, false, false] (by kernel_rfl) (by kernel_rfl) rfl (Nat.le_refl _) (Below.refl _ _) ⟨?_, ?_, ?_, ?_, ?_, ?_, ?_, ?_, ?_, ?_, trivial⟩ ?_
  · exact opObO_is (opOb_ld rfl rfl (OpK.tmp rfl) (fun w' hb => LB.out w' hb))
  · exact opObO_is (opOb_ld rfl rfl (OpK.tmp rfl) (fun w' hb => LB.out w' hb))
  · exact opObO_is ((opOb_move _ rfl (.inl rfl) rfl))
  · exact opObO_fn2Own ent_actsR wb.heap.size 22 L (u64v x) rfl rfl (OpK.tmp rfl) (OpK.tmp rfl) (fun w' hb => (acts_refO F A n c V e L x HLn.out HXd.out w' ((HV.out.below (HBb.out.trans (hb.mono HBb.out.size))).more (Nat.le_trans HBb.out.size hb.size)) hn)) (Nat.le_refl _)
  · exact opObO_bs0 rfl rfl run_bs0_u8 _ (Nat.le_refl _)
  · exact opObO_is (opOb_slc rfl rfl (OpK.tmp rfl) (OpKo.no) (OpKo.no) (fun w => cut_arr Tryd.underlying24 1 (by kernel_rfl) none none (0) (32) (.inl ⟨rfl, rfl⟩) (.inl ⟨rfl, rfl⟩) (by omega) (by omega) (by omega) (by omega) (by omega) (by omega)))
  · exact opObO_app0 (s := 22) wb.heap.size u8_info Tryd.underlying39 rfl rfl rfl (by rfl) (OpK.tmp rfl) (fun w' hb => (Rd.of_row (n := 32) R5.out (Nat.le_refl _) R5.out.lt).below hb) (fun _ _ => rfl) (by omega) (Nat.le_refl _)
  · exact opObO_is (opOb_slc rfl rfl (OpK.tmp rfl) (OpKo.no) (OpKo.no) (fun w => cut_arr Tryd.underlying103 1 (by kernel_rfl) none none (0) (8) (.inl ⟨rfl, rfl⟩) (.inl ⟨rfl, rfl⟩) (by omega) (by omega) (by omega) (by omega) (by omega) (by omega)))
  · exact opObO_app (s := 24) wb.heap.size u8_info Tryd.underlying39 rfl rfl rfl (by rfl) (Nat.le_refl _) (OpK.tmp rfl) (fun w' hb => Rd.of_row (row_below (B := wb.heap.size) R6.out hb R6.out.lt) (Nat.le_refl _) (Nat.lt_succ_self _)) (fun _ _ => rfl) 40 (u8v (catN 32 sd (leB s))) rfl (cat_Fn 32 sd (leB s) 40) (by omega) (Nat.le_refl _)
  · exact opObO_fn ent_refSum 26 wb.heap.size 5 40 (u8v (catN 32 sd (leB s))) (fun A c => #[.slice A 40 c]) rfl rfl (by rfl) (by simp) (fun a w A c hf e1 => by simp [e1]) (fun w' A c hb ho => (refSum_any 40 c A (catN 32 sd (leB s)) w' ho.rd HCl.out (by omega) (HP.out.below (HBb.out.trans (hb.mono HBb.out.size)))).mono fun e w'' ⟨he, hb2⟩ => ⟨by rw [he, HZs.out], hb2⟩)
  · intro w' hb
    simp only [finO, OF.is, OF.own, forall_eq]
    simp only [Act.put, List.setIfInBounds_toArray, List.set_cons_succ, List.set_cons_zero]
    rintro _ ⟨A21, c21, rfl, ho21⟩ _ _ _ ⟨A26, c26, rfl, ho26⟩
    intro fuel
    have HBc := Lib.hid (HBb.out.trans (hb.mono HBb.out.size))
    have HO21 := Lib.hid ho21
    clear hb ho21 ho26
    refine ord_step (i := 10) rfl (by kernel_rfl) rfl (fun K hK => ?_)
    refine wp_fn ent_drawR #[.agg (arr 1957 F), .slice A21 L c21, rootV z, .int .i64 1] rfl rfl ?_
    refine (draw_ref F A n c V A21 L c21 x z HZl.out 1 (by omega) (by omega) w' ((HV.out.below HBc.out).more HBc.out.size) HO21.out.rd HXn.out (by omega) (HP.out.below HBc.out)).mono ?_
    rintro e w2 ⟨A2, c2, rfl, ho, hb2⟩
    rw [HPd.out, HMk.out.1, HMk.out.2]
    rw [HPd.out, HMk.out.1] at ho
    refine ⟨_, rfl, hK _ _ ?_⟩
    clear hK
    simp only [Act.put, List.setIfInBounds_toArray, List.set_cons_succ, List.set_cons_zero]
    refine ord_take (i := 11) (.tuple #[.slice A2 m c2, .int .i64 k]) rfl (by kernel_rfl) (by kernel_rfl) (by kernel_rfl) rfl (fun _ _ _ h => h) (ex_move (.inl rfl) rfl) ?_
    simp only [Act.put, List.setIfInBounds_toArray, List.set_cons_succ, List.set_cons_zero]
    refine ord_take (i := 12) (.slice A2 m c2) rfl (by kernel_rfl) (by kernel_rfl) (by kernel_rfl) rfl (fun _ _ _ h => h) (ex_ext rfl rfl rfl) ?_
    simp only [Act.put, List.setIfInBounds_toArray, List.set_cons_succ, List.set_cons_zero]
    refine ord_take (i := 13) (.int .i64 k) rfl (by kernel_rfl) (by kernel_rfl) (by kernel_rfl) rfl (fun _ _ _ h => h) (ex_ext rfl rfl rfl) ?_
    simp only [Act.put, List.setIfInBounds_toArray, List.set_cons_succ, List.set_cons_zero]
    refine ord_take (i := 14) (.slice A2 m c2) rfl (by kernel_rfl) (by kernel_rfl) (by kernel_rfl) rfl (fun _ _ _ h => h) (ex_move (.inr rfl) rfl) ?_
    simp only [Act.put, List.setIfInBounds_toArray, List.set_cons_succ, List.set_cons_zero]
    refine ord_take (i := 15) (.int .i64 k) rfl (by kernel_rfl) (by kernel_rfl) (by kernel_rfl) rfl (fun _ _ _ h => h) (ex_move (.inr rfl) rfl) ?_
    simp only [Act.put, List.setIfInBounds_toArray, List.set_cons_succ, List.set_cons_zero]
    refine wpAny_done (by kernel_rfl) ?_ _
    have HB3 := Lib.hid (HBc.out.trans (hb2.mono HBc.out.size))
    rcases hcase with ⟨hP0, rfl, rfl⟩ | ⟨rfl, rfl⟩
    · have HP0 := Lib.hid hP0
      clear hP0 hb2 ho
      go_wp2_with fail
      go_ret2
      rw [HP0.out]
      exact ⟨rfl, HB3.out⟩
    · obtain ⟨a2, h2, _, _⟩ := ho.rd (show 0 < 1 * 1 by omega)
      subst h2
      have HC2 := Lib.hid (ho.rd.cells (show 0 < 1 * 1 by omega))
      clear hb2 ho
      go_wp2_with (first
        | (refine wpList_as rfl 35 rfl (.pointer (some (a2.add (0 * 1)))) ?_ ?_; (· exact ex_idx rfl rfl rfl (fun w => run_idxZ (z := 1) (k := 0) w Tryd.underlying37 (by kernel_rfl) a2 (by omega)) _))
        | (refine wpList_as rfl 36 rfl (.int .u64 ((PL.getD 0 0 : Nat) : Int)) ?_ ?_; (· exact ex_ld1 .u64 rfl rfl Tryd.underlying22 HC2.out)))
      go_ret2
      rw [HMk.out.2]
      exact ⟨rfl, HB3.out⟩
open PickTop PickTopRef in
set_option maxHeartbeats 8000000 in
theorem sync_ref (F : Nat → Value) (hF : Sc F 49) (A : Option Addr) (n c : Nat) (V : Nat → Value) (s e : Nat) (hse : s / 4 + 1 = e) (w : World) (hs : F 33 = .int .u64 (s : Int)) (hs2 : s < 1099511627776) (hV : VOk w w.heap.size F A n c V) (hn : n ≤ 65536) (hp : RefPkg w) :
    Calls Tryd.prog 34 #[.agg (arr 1957 F)] w fun r w' => ∃ A' c', r = .returned (.tuple #[.slice A' (syncL F V n s).length c', .int .i64 (pickE (syncL F V n s))]) ∧ OwnZ w' w.heap.size 22 1 A' (syncL F V n s).length c' (u64v fun j => (syncL F V n s).getD j 0) ∧ Below w.heap.size w w' := by
  have HV := Lib.hid hV
  have HS0 := Lib.hid (HS.nil w)
  have HP := Lib.hid hp
  have HSc := Lib.hid hF
  have HF33 := Lib.hid hs
  obtain ⟨L, hL⟩ : ∃ L, L = (actIx V e n).length := ⟨_, rfl⟩
  obtain ⟨x, hx⟩ : ∃ x, x = ax V e n := ⟨_, rfl⟩
  have HLn := Lib.hid hL
  have HXd := Lib.hid hx
  have hLn : L ≤ n := by rw [hL]; exact actIx_le V e n
  have HXn := Lib.hid (show ∀ q, q < L → x q < n by rw [hL, hx]; exact fun q hq => ax_lt hq)
  obtain ⟨z, hz⟩ : ∃ sd, sd = shaB (seedF 7 e (mixN F e)) 44 := ⟨_, rfl⟩
  obtain ⟨PL, hPL⟩ : ∃ PL, PL = syncL F V n s := ⟨_, rfl⟩
  have HZd := Lib.hid hz.symm
  have HZl := Lib.hid (show ∀ i, z i < 256 from fun i => by rw [hz]; exact shaB_lt _ _ i)
  have HPd := Lib.hid (show pickL (effF V) x z L 8 = PL by rw [hPL, hx, hz, hL]; unfold syncL; rw [hse])
  obtain ⟨e0, he0⟩ : ∃ e0, s / 4 = e0 := ⟨_, rfl⟩
  have HSe := Lib.hid he0
  have HQ2 := Lib.hid (fun w => (ShufFn.addU e0 1 w (by omega)).trans (by rw [show e0 + 1 = e by omega]))
  rw [← hPL]
  obtain ⟨m, hm⟩ : ∃ m, m = PL.length := ⟨_, rfl⟩
  obtain ⟨k, hk⟩ : ∃ k, k = pickE PL := ⟨_, rfl⟩
  have HMk := Lib.hid (And.intro hm.symm hk.symm)
  clear hV hp hF hs hL hx hz hPL hse he0 hm hk
  have tok1 := Tok.mk 1
  go_enter Tryd.func34, Tryd.ntmps34
  go_upto_region 2 with (first
    | (refine wpList_boxL rfl 49 _ 1 rfl rfl HS0.out 1957 F rfl ?_; intro b1 w1 hb1 hc1 hs; have HR1 := Lib.hid (hs.row 0 rfl); have HB1 := Lib.hid (hs.out (by simp; omega)); have hlt1 : b1 < w1.heap.size := hs.lt 0 rfl; have h33 := hs.cell 0 33 rfl (show 33 < 1957 by omega); rw [HF33.out] at h33; have HS1 := Lib.hid hs; clear hs)
    | (have hx : Tok 1 := (by assumption); clear hx; refine wpList_load_rd rfl 49 _ rfl 1957 _ Tryd.underlying49 rfl (by kernel_rfl) ⟨b1, 0, none⟩ rfl F (fun i hi => by rw [add_lit0]; exact (HR1.out).cell hi) ?_)
    | (go_at_call 49; have hx : Tok 1 := (by assumption); refine (epoch_ref F s e0 HSe.out HF33.out hs2 _).mono ?_; clear hx tok1; rintro r w2 ⟨rfl, hb⟩; have HS2 := Lib.hid (HS1.out.below hb); clear hb; have tok2 := Tok.mk 2)
    | (refine wpList_as rfl 7 rfl (.int .u64 ((e : Nat) : Int)) ?_ ?_; (· exact ex_bin rfl rfl rfl rfl HQ2.out _)))
  have R1 := Lib.hid (show w2.rowIs b1 49 1957 F from HS2.out.row 0 rfl)
  have HB2 := Lib.hid (HS2.out.out (by simp; omega))
  have L1 := Lib.hid (ld_all R1.out R1.out.lt Tryd.underlying49 rfl (by kernel_rfl) (B := w2.heap.size))
  clear HS2 HS1 HS0 HR1 HB1 h33
  refine wp_region_facts (B := w2.heap.size) (w0 := w2) [SF.is (.agg (arr 1957 F)), SF.is (.agg (arr 1957 F)), SF.is (.int .u64 ((e : Nat) : Int)), SF.ownZ w.heap.size 22 1 L (u64v x), SF.is (.agg (arr 1957 F)), SF.is (.int .u64 ((e : Nat) : Int)), SF.is (rootV z), SF.tup w.heap.size 22 1 m (u64v fun j => PL.getD j 0) k, SF.ownZ w.heap.size 22 1 m (u64v fun j => PL.getD j 0), SF.is (.int .i64 k), SF.ownZ w.heap.size 22 1 m (u64v fun j => PL.getD j 0), SF.is (.int .i64 k)] (by kernel_rfl) (by kernel_rfl) rfl (Nat.le_refl _) (Below.refl _ _) ⟨?_, ?_, ?_, ?_, ?_, ?_, ?_, ?_, ?_, ?_, ?_, ?_, trivial⟩ ?_
  · exact opOb_ld rfl rfl (OpK.tmp rfl) (fun w' hb => L1.out w' hb)
  · exact opOb_ld rfl rfl (OpK.tmp rfl) (fun w' hb => L1.out w' hb)
  · exact (opOb_move _ rfl (.inl rfl) rfl)
  · exact opOb_fn2 ent_actsR rfl rfl (OpK.tmp rfl) (OpK.tmp rfl) (fun w' hb => (acts_refO F A n c V e L x HLn.out HXd.out w' ((HV.out.below (HB2.out.trans (hb.mono HB2.out.size))).more (Nat.le_trans HB2.out.size hb.size)) hn).mono fun r w'' ⟨C, cC, he', ho, hb2⟩ => ⟨_, he', ⟨C, cC, rfl, own_Z (ho.less (Nat.le_trans HB2.out.size hb.size))⟩, hb2⟩)
  · exact opOb_ld rfl rfl (OpK.tmp rfl) (fun w' hb => L1.out w' hb)
  · exact (opOb_move _ rfl (.inl rfl) rfl)
  · exact opOb_fn3 ent_seedR rfl rfl (OpK.tmp rfl) (OpK.tmp rfl) OpK.const (fun w' hb => (seed_ref F HSc.out e 7 7 rfl w' (HP.out.below (HB2.out.trans (hb.mono HB2.out.size)))).mono fun r w'' ⟨he', hb2⟩ => ⟨_, by rw [he', HZd.out], rfl, hb2⟩)
  · exact opOb_fn4S ent_drawR rfl rfl (OpK.tmp rfl) rfl (OpK.tmp rfl) OpK.const (fun w' v2 hb hv => by obtain ⟨A13, c13, rfl, ho13⟩ := hv; refine (draw_ref F A n c V A13 L c13 x z HZl.out 8 (by omega) (by omega) w' ((HV.out.below (HB2.out.trans (hb.mono HB2.out.size))).more (Nat.le_trans HB2.out.size hb.size)) (by have h := ho13.rd; rwa [Nat.mul_one] at h) HXn.out (by omega) (HP.out.below (HB2.out.trans (hb.mono HB2.out.size)))).mono ?_; rintro e w2 ⟨A2, c2, rfl, ho, hb2⟩; rw [HPd.out] at ho; exact ⟨_, rfl, ⟨A2, c2, by rw [HPd.out, HMk.out.1, HMk.out.2], by rw [← HMk.out.1]; exact ho.mono (Nat.le_trans HB2.out.size hb.size)⟩, hb2⟩)
  · exact opOb_ext0 rfl rfl rfl
  · exact opOb_ext1 rfl rfl rfl
  · exact opOb_move _ rfl (.inr rfl) rfl
  · exact opOb_move _ rfl (.inr rfl) rfl
  · intro w' hb
    simp only [fin, SF.is, SF.ownZ, SF.tup, forall_eq]
    simp only [Act.put, List.setIfInBounds_toArray, List.set_cons_succ, List.set_cons_zero]
    rintro _ ⟨A11, c11, rfl, ho11⟩ _ ⟨A15, c15, rfl, _⟩ _ ⟨A16, c16, rfl, ho16⟩ _ ⟨A2, c2, rfl, ho2⟩
    have HB3 := Lib.hid (HB2.out.trans (hb.mono HB2.out.size))
    have HO2 := Lib.hid ho2
    clear hb ho2
    go_wp2_with fail
    go_ret2
    rw [HMk.out.1, HMk.out.2]
    exact ⟨A2, c2, rfl, HO2.out, HB3.out⟩
end Go.Proofs.YtjhgndnpihnidaaDoor
/- A state with one validator, that is active. -/
namespace Go.Proofs.YtjhgndnpihnidaaDoor
set_option maxRecDepth 40000
open Go.RowKit
namespace PickAlone
def pts : List (Nat × Value) := [(2, .int .u64 32000000000), (6, .int .u64 18446744073709551615), (7, .int .u64 18446744073709551615)]
noncomputable def cs : Array Value := (Tryd.prog.built 57 pts).getD #[]
theorem cs_built : Tryd.prog.built 57 pts = some cs := by
  have h : (Tryd.prog.built 57 pts).isSome = true := by kernel_rfl
  unfold cs
  cases hb : Tryd.prog.built 57 pts with
  | none => rw [hb] at h; cases h
  | some x => rfl
theorem cs_size : cs.size = 86 := by kernel_rfl
noncomputable def V : Nat → Value := fun q => cs.getD q undef
theorem cs_arr : cs = arr 86 V := by rw [← cs_size]; exact arr_self cs
theorem run_bsW (w : World) : (Instr.buildSlice 36 1 #[(0, .agg cs)]).run Tryd.prog w = .ok (.slice (some ⟨w.heap.size, 0, none⟩) 1 1) (w.alloc (.cells cs 57)) := by
  kernel_rfl
theorem V_sc : Sc V 57 := by
  have h : (DataW.trod (H := Unit) (fun _ => ()) Tryd.prog default 0 (fun _ => true) true 8 57 cs.toList).isSome = true := by kernel_rfl
  obtain ⟨y, hy⟩ := Option.isSome_iff_exists.1 h
  refine TyF.sc (TyF.of_trod hy fun i v hv => ?_)
  unfold V
  rw [Array.getElem?_toList] at hv
  simp [Array.getD, Array.getElem?_eq_some_iff] at hv ⊢
  obtain ⟨h1, h2⟩ := hv
  rw [dif_pos h1]; exact h2
theorem val : isAct V 1 0 = true ∧ effF V 0 = 32000000000 := ⟨by kernel_rfl, by kernel_rfl⟩
theorem wpList_bsW {ops : Array Oper} {rest : List Oper} {o : Oper} {a : Act} {w : World} {Q : Exit → Act → World → Prop} (hgd : o.guard = none) (x : Operand) (ho : o.op = .buildSlice 36 1 #[(0, x)]) (hx : a.eval x = .agg cs)
    (hK : ∀ b w', w.heap.size ≤ b → w'.rowIs b 57 86 V → Below w.heap.size w w' → wpList Tryd.prog ops Q rest (a.put o.dst (.slice (some ⟨b, 0, none⟩) 1 1)) w') : wpList Tryd.prog ops Q (o :: rest) a w :=
  wpList_plain hgd fun _ hK' => by
    have hrun : (execOp a.eval o).run Tryd.prog w = .ok (.value (.slice (some ⟨w.heap.size, 0, none⟩) 1 1)) (w.alloc (.cells cs 57)) := by
      unfold execOp
      rw [ho]
      simp only [List.map_toArray, List.map_cons, List.map_nil, hx]
      simp [run_bsW]
    unfold Oper.wp
    rw [hrun]
    exact hK' _ _ (hK _ _ (Nat.le_refl _) ⟨cs, heap_alloc_new w _, cs_size, fun i hi => by rw [cs_arr]; exact arr_at 86 V i hi⟩ ((Below.refl _ _).alloc (Nat.le_refl _) _))
theorem run_b64 (w : World) : (Instr.buildSlice 37 1 #[(0, .int .u64 0)]).run Tryd.prog w = .ok (.slice (some ⟨w.heap.size, 0, none⟩) 1 1) (w.alloc (.cells #[.int .u64 0] 22)) := by simp [go_sem]
theorem run_b8 (w : World) : (Instr.buildSlice 39 1 #[(0, .int .u8 0)]).run Tryd.prog w = .ok (.slice (some ⟨w.heap.size, 0, none⟩) 1 1) (w.alloc (.cells #[.int .u8 0] 5)) := by simp [go_sem]
theorem awS_fn (s1 s2 s3 s4 s5 : Value) : (fun i => (awS s1 s2 s3 s4 s5).getD i undef) = fun i => if i = 1092 then s5 else if i = 988 then s4 else if i = 987 then s3 else if i = 722 then s2 else if i = 721 then s1 else z49.getD i undef := by
  funext i
  unfold awS
  simp only [set_getD]
  have hs := z49_size
  have e : ∀ k (cs : Array Value), k < 1957 → cs.size = 1957 → ((k = i ∧ k < cs.size) ↔ i = k) := fun k cs hk hc => ⟨fun h => h.1.symm, fun h => ⟨h.symm, by omega⟩⟩
  simp only [Array.size_setIfInBounds, hs]
  by_cases h1 : i = 1092
  · subst h1; simp
  by_cases h2 : i = 988
  · subst h2; simp
  by_cases h3 : i = 987
  · subst h3; simp
  by_cases h4 : i = 722
  · subst h4; simp
  by_cases h5 : i = 721
  · subst h5; simp
  rw [if_neg (fun h => h1 h.1.symm), if_neg (fun h => h2 h.1.symm), if_neg (fun h => h3 h.1.symm), if_neg (fun h => h4 h.1.symm), if_neg (fun h => h5 h.1.symm), if_neg h1, if_neg h2, if_neg h3, if_neg h4, if_neg h5]
theorem awS_sc (s1 s2 s3 s4 s5 : Value) : Sc (fun i => (awS s1 s2 s3 s4 s5).getD i undef) 49 := by
  rw [awS_fn]
  exact ((((z49_sc.slice_cell 721 (t := 36) (by kernel_rfl) Tryd.underlying36 s1).slice_cell 722 (t := 37) (by kernel_rfl) Tryd.underlying37 s2).slice_cell 987 (t := 39) (by kernel_rfl) Tryd.underlying39 s3).slice_cell 988 (t := 39) (by kernel_rfl) Tryd.underlying39 s4).slice_cell 1092 (t := 37) (by kernel_rfl) Tryd.underlying37 s5
theorem state_of (b2 b3 b4 b5 b6 : Nat) : ∃ G : Nat → Value, Tryd.prog.built 49 [(11, .slice (some ⟨b2, 0, none⟩) 1 1), (12, .slice (some ⟨b3, 0, none⟩) 1 1), (15, .slice (some ⟨b4, 0, none⟩) 1 1), (16, .slice (some ⟨b5, 0, none⟩) 1 1), (21, .slice (some ⟨b6, 0, none⟩) 1 1)] = some (arr 1957 G) ∧ (∀ i, i < 1957 → (G i).oneCell' = true) ∧ Sc G 49 ∧ G 33 = .int .u64 ((0 : Nat) : Int) ∧ G 721 = .slice (some ⟨b2, 0, none⟩) 1 1 := by
  refine ⟨fun i => (awS (.slice (some ⟨b2, 0, none⟩) 1 1) (.slice (some ⟨b3, 0, none⟩) 1 1) (.slice (some ⟨b4, 0, none⟩) 1 1) (.slice (some ⟨b5, 0, none⟩) 1 1) (.slice (some ⟨b6, 0, none⟩) 1 1)).getD i undef, ?_, ?_, awS_sc _ _ _ _ _, ?_, ?_⟩
  · exact (awS_built _ _ _ _ _).trans (congrArg some (by rw [← awS_size]; exact arr_self _))
  · exact fun i hi => awS_one _ _ _ _ _ rfl rfl rfl rfl rfl i hi
  · exact awS_33 _ _ _ _ _
  · exact awS_721 _ _ _ _ _
theorem V_one : ∀ i, i < 1 → Sc (fun q => V (i * 86 + q)) 57 := fun i hi => by
  obtain rfl : i = 0 := by omega
  exact V_sc.congr fun q => by simp
/-- All of the tries are taken. -/
theorem all_eight (s : Nat → Nat) : (pickL (effF V) (ax V 1 1) s (actIx V 1 1).length 8).length = 8 := by
  have h1 : actIx V 1 1 = [0] := by unfold actIx; simp [List.range_succ, val.1]
  have h2 : ax V 1 1 = fun j => [0].getD j 0 := by unfold ax; rw [h1]
  rw [h1, h2]
  have h3 : ∀ i, i < 256 → takeN (effF V) (fun j => [0].getD j 0) s [0].length i = true := fun i _ => by
    unfold takeN
    have hc : candN (fun j => [0].getD j 0) s [0].length i = 0 := by
      unfold candN
      have := place_lt (s := s) (n := 1) (i := i % 1) (Nat.mod_lt _ (by omega))
      rw [show placeN s [0].length (i % [0].length) = 0 by show placeN s 1 (i % 1) = 0; omega]
      rfl
    rw [hc, val.2]
    have := lotN_lt s i
    exact decide_eq_true (by omega)
  unfold pickL
  rw [outL_all h3]
  simp
end PickAlone
open PickAlone ShufRounds in
set_option maxRecDepth 100000 in
set_option maxHeartbeats 8000000 in
theorem alone_any (w : World) : Calls Tryd.prog 42 #[] w fun e w' => ∃ G b, e = .returned (.agg (arr 1957 G)) ∧ Sc G 49 ∧ G 33 = .int .u64 ((0 : Nat) : Int) ∧ VOk w' w'.heap.size G (some ⟨b, 0, none⟩) 1 1 V ∧ Below w.heap.size w w' := by
  have HS0 := Lib.hid (HS.nil w)
  have tok1 := Tok.mk 1
  go_enter Tryd.func42, Tryd.ntmps42
  go_wp2_with (first
    | (refine wpList_allocL rfl 49 0 rfl rfl HS0.out z49 z49_zero 1957 (fun i => z49.getD i undef) z49_size (fun i hi => arr_getD i (by rw [z49_size]; exact hi)) ?_; intro b0 w1 hb0 hc0 hs; have HS1 := Lib.hid hs; clear hs)
    | (refine wpList_build_as rfl 57 _ rfl pts rfl cs cs_built ?_)
    | (refine wpList_bsW rfl _ rfl rfl ?_; intro b2 w2 hb2 hr hb; have HR2 := Lib.hid hr; have HS2 := Lib.hid (HS1.out.below hb); have HN2 := Lib.hid (HS.nil w2); clear hr hb)
    | (have hx : Tok 1 := (by assumption); refine wpList_bs1s rfl (.const (.int .u64 0)) (.int .u64 0) rfl rfl (fun w => run_b64 w) HN2.out ?_; clear hx tok1; intro b3 w3 hb3 hc3 hbl hs; have HR3 := Lib.hid (row_below HR2.out hbl HR2.out.lt); have HS3 := Lib.hid (HS2.out.below hbl); have HN3 := Lib.hid (HS.nil w3); clear hs hbl; have tok2 := Tok.mk 2)
    | (have hx : Tok 2 := (by assumption); refine wpList_bs1s rfl (.const (.int .u8 0)) (.int .u8 0) rfl rfl (fun w => run_b8 w) HN3.out ?_; clear hx tok2; intro b4 w4 hb4 hc4 hbl hs; have HR4 := Lib.hid (row_below HR3.out hbl HR3.out.lt); have HS4 := Lib.hid (HS3.out.below hbl); have HN4 := Lib.hid (HS.nil w4); clear hs hbl; have tok3 := Tok.mk 3)
    | (have hx : Tok 3 := (by assumption); refine wpList_bs1s rfl (.const (.int .u8 0)) (.int .u8 0) rfl rfl (fun w => run_b8 w) HN4.out ?_; clear hx tok3; intro b5 w5 hb5 hc5 hbl hs; have HR5 := Lib.hid (row_below HR4.out hbl HR4.out.lt); have HS5 := Lib.hid (HS4.out.below hbl); have HN5 := Lib.hid (HS.nil w5); clear hs hbl; have tok4 := Tok.mk 4)
    | (have hx : Tok 4 := (by assumption); refine wpList_bs1s rfl (.const (.int .u64 0)) (.int .u64 0) rfl rfl (fun w => run_b64 w) HN5.out ?_; clear hx tok4; intro b6 w6 hb6 hc6 hbl hs; have HR6 := Lib.hid (row_below HR5.out hbl HR5.out.lt); have HS6 := Lib.hid (HS5.out.below hbl); clear hs hbl; have tok5 := Tok.mk 5)
    | (have hx : Tok 5 := (by assumption); clear hx tok5; obtain ⟨G, hG⟩ := state_of b2 b3 b4 b5 b6; have HG := Lib.hid hG; clear hG; refine wpList_build_as rfl 49 #[(11, .tmp 2), (12, .tmp 3), (15, .tmp 4), (16, .tmp 5), (21, .tmp 6)] rfl [(11, .slice (some ⟨b2, 0, none⟩) 1 1), (12, .slice (some ⟨b3, 0, none⟩) 1 1), (15, .slice (some ⟨b4, 0, none⟩) 1 1), (16, .slice (some ⟨b5, 0, none⟩) 1 1), (21, .slice (some ⟨b6, 0, none⟩) 1 1)] rfl (arr 1957 G) HG.out.1 ?_)
    | (refine PickDraw.wpList_storeHG rfl 49 (.tmp 0) (.tmp 7) rfl HS6.out 0 rfl G rfl rfl (by kernel_rfl) HG.out.2.1 ?_; intro w7 hs hg; have HS7 := Lib.hid hs; have HR7 := Lib.hid (HR6.out.of_block (hg.block b2 HR6.out.lt (fun e => by injection e with e; have := HS1.out.lt 0 rfl; omega))); clear hs hg))
  exact ret_rowIs rfl (HS7.out.row 0 rfl) _ rfl Tryd.underlying49 rfl (by kernel_rfl) rfl ⟨G, b2, rfl, HG.out.2.2.1, HG.out.2.2.2.1, ⟨HG.out.2.2.2.2, Rd.of_row HR7.out (Nat.le_refl _) HR7.out.lt, V_one, by unfold maxLen; omega⟩, HS7.out.out (by simp; omega)⟩
end Go.Proofs.YtjhgndnpihnidaaDoor
/- The fixed answers of package pick. -/
namespace Go.Proofs.YtjhgndnpihnidaaDoor
set_option maxRecDepth 40000
open Go.RowKit
namespace PickAwake
theorem z721 : z49.getD 721 undef = .slice none 0 0 := by kernel_rfl
theorem zb : Tryd.prog.built 49 [] = some (arr 1957 fun i => z49.getD i undef) := by
  rw [built49]
  exact congrArg some (by rw [← z49_size]; exact arr_self _)
theorem prop0 (F V : Nat → Value) : propL F V 0 0 = [] := pick_none (.inl rfl)
theorem sync8 (G : Nat → Value) : (syncL G PickAlone.V 1 0).length = 8 := PickAlone.all_eight _
theorem syncE (G : Nat → Value) : pickE (syncL G PickAlone.V 1 0) = 0 := by
  unfold pickE
  rw [if_neg (fun e => by have := sync8 G; rw [e] at this; cases this)]
end PickAwake
open PickAwake in
set_option maxHeartbeats 8000000 in
theorem awake15_any (w : World) (hp : ShaPkg w) : Calls Tryd.prog 12 #[] w fun e w' => e = .returned (.bool true) ∧ Below w.heap.size w w' := by
  have HP := Lib.hid hp
  obtain ⟨Z, hZ⟩ : ∃ Z : Nat → Value, Z = fun i => z49.getD i undef := ⟨_, rfl⟩
  have HZs := Lib.hid (show Sc Z 49 by rw [hZ]; exact z49_sc)
  have HZ33 := Lib.hid (show Z 33 = .int .u64 ((0 : Nat) : Int) by rw [hZ]; exact z49_33)
  have HZ721 := Lib.hid (show Z 721 = .slice none 0 0 by rw [hZ]; exact z721)
  have HZb := Lib.hid (show Tryd.prog.built 49 [] = some (arr 1957 Z) by rw [hZ]; exact zb)
  clear hp hZ
  go_enter Tryd.func12, Tryd.ntmps12
  go_wp2_with (first
    | (refine wpList_build_as rfl 49 #[] rfl [] rfl (arr 1957 Z) HZb.out ?_)
    | (go_at_call 14; refine (proposer_look Z HZs.out none 0 0 (fun _ => undef) 0 0 rfl _ HZ33.out (by omega) ⟨HZ721.out, Rd.none_, (fun i hi => absurd hi (by omega)), by unfold maxLen; omega⟩ (by omega) HP.out).mono ?_; rintro e w1 ⟨rfl, hb⟩; rw [prop0]; have HB1 := Lib.hid hb; clear hb)
    | (go_at_call 42; refine (alone_any _).mono ?_; rintro e w2 ⟨G, b, rfl, hsc, h33, hv, hb⟩; have HGs := Lib.hid hsc; have HG33 := Lib.hid h33; have HGv := Lib.hid hv; have HB2 := Lib.hid (HB1.out.trans (hb.mono HB1.out.size)); clear hsc h33 hv hb)
    | (go_at_call 33; refine (sync_look G HGs.out (some ⟨b, 0, none⟩) 1 1 PickAlone.V 0 1 rfl _ HG33.out (by omega) HGv.out (by omega) (HP.out.below HB2.out)).mono ?_; rintro e w3 ⟨A3, c3, rfl, _, hb⟩; rw [sync8, syncE]; have HB3 := Lib.hid (HB2.out.trans (hb.mono HB2.out.size)); clear hb))
  go_ret
  exact ⟨rfl, HB3.out⟩
end Go.Proofs.YtjhgndnpihnidaaDoor
