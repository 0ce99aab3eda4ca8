/- Is finality too long ago? -/
import Derived.Test.YtjphchcjneofhaaDoorLookSums
import Derived.Test.YtjphchcjneofhaaDoorWordFn
import Derived.Test.YtjphchcjneofhaaDoorLookRef
namespace Go.Proofs.YtjphchcjneofhaaDoor
open Go.RowKit
def leakB (s f : Nat) : Bool := decide (4 < s / 4 - 1 - f)
set_option maxHeartbeats 1000000 in
theorem leak_look (F : Nat → Value) (s f : Nat) (w : World) (hs : F 33 = .int .u64 (s : Int)) (hs2 : s < 1099511627776) (hf : F 1059 = .int .u64 (f : Int)) (hf2 : f ≤ s / 4) :
    Calls Tryd.prog 8 #[.agg (arr 1957 F)] w fun r w' => r = .returned (.bool (leakB s f)) ∧ Below w.heap.size w w' := by
  have H33 := Lib.hid hs
  have H1059 := Lib.hid hf
  obtain ⟨e, he⟩ : ∃ e, e = s / 4 := ⟨_, rfl⟩
  have HD := Lib.hid (show (s : Int) / 4 = (e : Int) by omega)
  have HL := Lib.hid (show decide ((4 : Int) < ((e - 1 - f : Nat) : Int)) = leakB s f by unfold leakB; rw [← he]; exact decide_eq_decide.2 (by omega))
  have he2 : e ≤ 1099511627776 := by omega
  have hf3 : f ≤ 1099511627776 := by omega
  clear hs hf he hf2
  have tok1 := Tok.mk 1
  go_enter Tryd.func8, Tryd.ntmps8
  go_wp2_with (first
    | (refine wpList_box rfl _ _ rfl 1957 F rfl ?_; intro w1 hr1 hb1; have HB1 := Lib.hid hb1; have h33 := (hr1.cell (i := 33) (by omega)).trans (congrArg some H33.out); have h1059 := (hr1.cell (i := 1059) (by omega)).trans (congrArg some H1059.out); clear hr1 hb1)
    | (go_at_call 18; have hx : Tok 1 := (by assumption); clear hx tok1; rw [HD.out]; refine (less_look e 1 (by omega) (by omega) _).mono ?_; rintro r w2 ⟨rfl, hw2⟩; obtain rfl : w1 = w2 := hw2.symm; have tok2 := Tok.mk 2; generalize hm : e - 1 = m at *; have HM := Lib.hid hm; have hm3 : m ≤ 1099511627776 := (by omega); clear hm)
    | (go_at_call 18; have hx : Tok 2 := (by assumption); clear hx tok2; refine (less_look m f (by omega) (by omega) _).mono ?_; rintro r w2 ⟨rfl, hw2⟩; obtain rfl : w1 = w2 := hw2.symm; generalize m - f = q at *))
  go_ret
  exact ⟨ret_bool (by rw [← HL.out]), HB1.out⟩
theorem before_ref (F : Nat → Value) (s e : Nat) (hse : s / 4 = e) (hs : F 33 = .int .u64 (s : Int)) (hs2 : s < 1099511627776) (w : World) :
    Calls Tryd.prog 20 #[.agg (arr 1957 F)] w fun r w' => r = .returned (.int .u64 ((e - 1 : Nat) : Int)) ∧ Below w.heap.size w w' := by
  have H33 := Lib.hid hs
  have HE := Lib.hid hse
  have he : e ≤ 1099511627776 := by omega
  clear hs hse
  go_enter Tryd.func20, Tryd.ntmps20
  go_wp2_with (first
    | (refine wpList_box rfl _ _ rfl 1957 F rfl ?_; intro w1 hr1 hb1; have HR1 := Lib.hid hr1; have HB1 := Lib.hid hb1; clear hr1 hb1)
    | (refine wpList_load_rd rfl 49 _ rfl 1957 _ Tryd.underlying49 rfl (by kernel_rfl) ⟨w.heap.size, 0, none⟩ rfl F (fun i hi => by rw [add_lit0]; exact HR1.out.cell hi) ?_)
    | (go_at_call 30; refine (epoch_ref F s e HE.out H33.out hs2 _).mono ?_; rintro r w2 ⟨rfl, hb2⟩; have HB2 := Lib.hid (HB1.out.trans (hb2.mono HB1.out.size)); clear hb2)
    | (go_at_call 19; refine (less_ref e 1 (by omega) (by omega) _).mono ?_; rintro r w3 ⟨rfl, hw3⟩; obtain rfl : w2 = w3 := hw3.symm; generalize hm : e - 1 = m at *; have HM := Lib.hid hm; clear hm))
  go_ret
  rw [HM.out]
  exact ⟨rfl, HB2.out⟩
end Go.Proofs.YtjphchcjneofhaaDoor
