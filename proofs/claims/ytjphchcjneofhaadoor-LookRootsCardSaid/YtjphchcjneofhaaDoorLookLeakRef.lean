/- The leak, by the reference. (Printed by a program of mine.) -/
import Derived.Test.YtjphchcjneofhaaDoorLookLeak
namespace Go.Proofs.YtjphchcjneofhaaDoor
open Go.RowKit
theorem ent_before (vs : Array Value) (w : World) : (callFunc 20 vs).run Tryd.prog w = .ok (.enter 20 vs) w := by kernel_rfl
theorem ent_less (vs : Array Value) (w : World) : (callFunc 19 vs).run Tryd.prog w = .ok (.enter 19 vs) w := by kernel_rfl
set_option maxHeartbeats 1000000 in
theorem leak_ref (F : Nat → Value) (s f : Nat) (w : World) (hs : F 33 = .int .u64 (s : Int)) (hs2 : s < 1099511627776) (hf : F 1059 = .int .u64 (f : Int)) (hf2 : f ≤ s / 4) :
    Calls Tryd.prog 9 #[.agg (arr 1957 F)] w fun r w' => r = .returned (.bool (leakB s f)) ∧ Below w.heap.size w w' := by
  have H33 := Lib.hid hs
  have HF := Lib.hid hf
  obtain ⟨e, he⟩ : ∃ e, s / 4 = e := ⟨_, rfl⟩
  have HE := Lib.hid he
  have he2 : e ≤ 1099511627776 := by omega
  have hf3 : f ≤ 1099511627776 := by omega
  have HL := Lib.hid (show decide (((4 : Nat) : Int) < ((e - 1 - f : Nat) : Int)) = leakB s f by unfold leakB; rw [he]; exact decide_eq_decide.2 (by omega))
  clear hs hf he hf2
  go_enter Tryd.func9, Tryd.ntmps9
  go_wp2_with (refine wpList_box rfl _ _ rfl 1957 F rfl ?_; intro w1 hr1 hb1; have HR1 := Lib.hid hr1; have HB1 := Lib.hid hb1; clear hr1 hb1)
  have hlt1 : w.heap.size < w1.heap.size := HR1.out.lt
  have L49 := Lib.hid (ld_all HR1.out hlt1 Tryd.underlying49 rfl (by kernel_rfl))
  refine wp_region_facts (B := w1.heap.size) (w0 := w1) [SF.is (.agg (arr 1957 F)), SF.is (.int .u64 ((e - 1 : Nat) : Int)), SF.is (.pointer (some ⟨w.heap.size, 1059, none⟩)), SF.is (.pointer (some ⟨w.heap.size, 1059, none⟩)), SF.is (.int .u64 ((f : Nat) : Int)), SF.is (.int .u64 ((e - 1 - f : Nat) : Int)), SF.is (.bool (leakB s f)), SF.is (.bool (leakB s f))] (by kernel_rfl) (by kernel_rfl) rfl (Nat.le_refl _) (Below.refl _ _) ⟨?_, ?_, ?_, ?_, ?_, ?_, ?_, ?_, trivial⟩ ?_
  · exact opOb_ld rfl rfl (OpK.tmp rfl) (fun w' hb => L49.out w' hb)
  · exact opOb_fn1 ent_before rfl rfl (OpK.tmp rfl) (fun w' hb => (before_ref F s e HE.out H33.out hs2 w').mono fun r w'' ⟨he', hb2⟩ => ⟨_, he', rfl, hb2⟩)
  · exact opOb_fld rfl rfl (OpK.tmp rfl) (fun w => by simp [go_sem])
  · exact opOb_fld rfl rfl (OpK.tmp rfl) (fun w => by simp [go_sem])
  · exact opOb_ld rfl rfl (OpK.tmp rfl) (fun w' hb => run_ldU w' _ _ (((row_below HR1.out hb hlt1).cell (by omega)).trans (congrArg some HF.out)))
  · exact opOb_fn2 ent_less rfl rfl (OpK.tmp rfl) (OpK.tmp rfl) (fun w' hb => (less_ref (e - 1) f (by omega) (by omega) w').mono fun r w'' ⟨he', hw⟩ => ⟨_, he', rfl, by subst hw; exact Below.refl _ _⟩)
  · exact opOb_bin rfl rfl rfl (OpK.tmp rfl) OpK.const (fun w => by rw [← HL.out]; simp [go_sem])
  · exact (opOb_move _ rfl (.inr rfl) rfl)
  · intro w' hb
    simp only [fin, SF.is, forall_eq]
    simp only [Act.put, List.setIfInBounds_toArray, List.set_cons_succ, List.set_cons_zero]
    go_wp2_with fail
    go_ret
    exact ⟨rfl, HB1.out.trans (hb.mono HB1.out.size)⟩
end Go.Proofs.YtjphchcjneofhaaDoor
