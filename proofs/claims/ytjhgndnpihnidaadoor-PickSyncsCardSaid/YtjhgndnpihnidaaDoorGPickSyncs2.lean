/- A part of what the proofs stand on: PickSyncsLaw. -/
import Derived.Test.YtjhgndnpihnidaaDoorGPic21
import Derived.Test.YtjhgndnpihnidaaDoorGPickSyncs1
import Derived.Test.YtjhgndnpihnidaaDoorGPic18
import Derived.Test.YtjhgndnpihnidaaDoorGPic13
import Derived.Test.YtjhgndnpihnidaaDoorGPic22
/- The law PickSyncs. (Printed by a program of mine.) -/
namespace Go.Proofs.YtjhgndnpihnidaaDoor
set_option maxRecDepth 40000
open Go.RowKit
namespace PickSyncsLaw
theorem com_leaf : ∀ q, q < 432 → leafAt Tryd.prog 4 47 q = some 5 := fun q hq => by
  have h : (List.range 432).all (fun q => leafAt Tryd.prog 4 47 q == some 5) = true := by kernel_rfl
  exact eq_of_beq (List.all_eq_true.1 h q (List.mem_range.2 hq))
theorem com_kinds (y z : Nat → Nat) : ∀ i l, i < 432 → leafAt Tryd.prog 4 47 i = some l → kindsOk Tryd.prog l (u8v y i) (u8v z i) := fun i l hi hl => by
  rw [com_leaf i hi] at hl
  injection hl with hl
  subst hl
  unfold kindsOk
  rw [show Tryd.prog.underlying 5 = some (.int .u8) from Tryd.underlying5]
  exact ⟨_, _, rfl, rfl⟩
theorem ex_eqS {P : Program} {w : World} {o : Oper} {a : Act} {ty rt : TypeId} {xo yo : Operand} (k : IntKind) (x : Int) (hop : o.op = .binOp .eql ty xo yo rt) (hx : a.eval xo = .int k x) (hy : a.eval yo = .int k x) : (execOp a.eval o).run P w = .ok (.value (.bool true)) w := by
  unfold execOp
  rw [hop]
  simp only [hx, hy]
  simp [eqGuard, go_sem]
end PickSyncsLaw
open PickSyncsLaw in
set_option maxHeartbeats 8000000 in
theorem pickSyncs_law (w : World) (s : StV) (hS : StOk w w.heap.size s) (hp : ShaPkg w) (hpr : RefPkg w) : Calls Tryd.prog 9 #[.agg (arr 1957 s.F)] w fun r w' => r = .returned (.bool true) ∧ Below w.heap.size w w' := by
  have HS0 := Lib.hid (HS.nil w)
  have HSo := Lib.hid hS
  have HP := Lib.hid hp
  have HPR := Lib.hid hpr
  have HSc := Lib.hid hS.sc
  obtain ⟨h33, -⟩ := hS.sc.u64 33 (by kernel_rfl)
  obtain ⟨sl, hsl'⟩ : ∃ sl, nat (s.F 33) = sl := ⟨_, rfl⟩
  rw [hsl'] at h33
  have HF33 := Lib.hid h33
  have HSl := Lib.hid hsl'
  clear hS hp hpr h33 hsl'
  have tok1 := Tok.mk 1
  go_enter Tryd.func9, Tryd.ntmps9
  go_upto_if 15 with (first
    | (refine wpList_boxL rfl 49 _ 1 rfl rfl HS0.out 1957 s.F rfl ?_; intro b1 w1 hb1 hc1 hs; have HS1 := Lib.hid hs; clear hs)
    | (go_at_call 12; refine (awake15_any _ (HP.out.below (HS1.out.out (by simp; omega)))).mono ?_; rintro r w2 ⟨rfl, hb2⟩; have HS2 := Lib.hid (HS1.out.below hb2); clear hb2)
    | (refine wpList_load_rd rfl 49 _ rfl 1957 _ Tryd.underlying49 rfl (by kernel_rfl) ⟨b1, 0, none⟩ rfl s.F (fun i hi => by rw [add_lit0]; exact (HS2.out.row 0 rfl).cell hi) ?_)
    | (go_at_call 13; refine (right_any s _ ((HSo.out.below (HS2.out.out (by simp; omega))).more HS2.out.size)).mono ?_; rintro r w3 ⟨b, rfl, hF, hb3⟩; have HF := Lib.hid hF; have HS3 := Lib.hid (HS2.out.below hb3); clear hb3 hF))
  cases b with
  | false =>
    go_wp2_with fail
    go_ret
    exact ⟨rfl, HS3.out.out (by simp; omega)⟩
  | true =>
    have HRF := Lib.hid (HF.out rfl)
    have hn := HRF.out.n
    have hsl : sl < 1099511627776 := by have := HRF.out.slot; rw [HSl.out] at this; exact this
    obtain ⟨e, he⟩ : ∃ e, sl / 4 + 1 = e := ⟨_, rfl⟩
    have HSe := Lib.hid he
    obtain ⟨PL, hPL⟩ : ∃ PL, PL = syncL s.F s.V s.nV sl := ⟨_, rfl⟩
    obtain ⟨m, hm⟩ : ∃ m, m = PL.length := ⟨_, rfl⟩
    obtain ⟨k, hk⟩ : ∃ k, k = pickE PL := ⟨_, rfl⟩
    obtain ⟨y, hy⟩ : ∃ y, y = comN s.F s.V s.nV sl := ⟨_, rfl⟩
    have hm8 : m ≤ 8 := by
      rcases PickNext.next_cases s.F s.V s.nV sl with h | h <;> (rw [hm, hPL]; omega)
    have HPL := Lib.hid hPL.symm
    have HM := Lib.hid hm.symm
    have HK := Lib.hid hk.symm
    have HY := Lib.hid hy.symm
    clear HF he hPL hm hk hy
    go_wp2_with (first
      | (have hx : Tok 1 := (by assumption); clear hx; refine wpList_load_rd rfl 49 _ rfl 1957 _ Tryd.underlying49 rfl (by kernel_rfl) ⟨b1, 0, none⟩ rfl s.F (fun i hi => by rw [add_lit0]; exact (HS3.out.row 0 rfl).cell hi) ?_)
      | (go_at_call 33; refine (sync_look s.F HSc.out s.aV s.nV s.cV s.V sl e HSe.out _ HF33.out hsl (((HSo.out.below (HS3.out.out (by simp; omega))).more HS3.out.size).vok) hn (HP.out.below (HS3.out.out (by simp; omega)))).mono ?_; clear tok1; rintro r w4 ⟨A4, c4, rfl, ho, hb⟩; rw [HPL.out, HM.out, HK.out]; rw [HPL.out, HM.out] at ho; have HR4 := Lib.hid (show Rd w4 w4.heap.size A4 m (u64v fun j => PL.getD j 0) from by have h := ho.rd; rwa [Nat.mul_one] at h); have HS4 := Lib.hid (HS3.out.below hb); clear hb ho; have tok2 := Tok.mk 2)
      | (have hx : Tok 2 := (by assumption); clear hx; refine wpList_load_rd rfl 49 _ rfl 1957 _ Tryd.underlying49 rfl (by kernel_rfl) ⟨b1, 0, none⟩ rfl s.F (fun i hi => by rw [add_lit0]; exact (HS4.out.row 0 rfl).cell hi) ?_)
      | (go_at_call 34; refine (sync_ref s.F HSc.out s.aV s.nV s.cV s.V sl e HSe.out _ HF33.out hsl (((HSo.out.below (HS4.out.out (by simp; omega))).more HS4.out.size).vok) hn (HPR.out.below (HS4.out.out (by simp; omega)))).mono ?_; clear tok2; rintro r w5 ⟨A5, c5, rfl, ho, hb⟩; rw [HPL.out, HM.out, HK.out]; rw [HPL.out, HM.out] at ho; have HR5 := Lib.hid (show Rd w5 w5.heap.size A5 m (u64v fun j => PL.getD j 0) from by have h := ho.rd; rwa [Nat.mul_one] at h); have HR45 := Lib.hid ((HR4.out.below hb).more hb.size); have HS5 := Lib.hid (HS4.out.below hb); have HN5 := Lib.hid (HS.nil w5); clear hb ho HR4; have tok3 := Tok.mk 3)
      | (have hx : Tok 3 := (by assumption); clear hx; refine wpList_load_rd rfl 49 _ rfl 1957 _ Tryd.underlying49 rfl (by kernel_rfl) ⟨b1, 0, none⟩ rfl s.F (fun i hi => by rw [add_lit0]; exact (HS5.out.row 0 rfl).cell hi) ?_)
      | (go_at_call 35; refine (next_look s.F HSc.out s.aV s.nV s.cV s.V sl e HSe.out _ HF33.out hsl (((HSo.out.below (HS5.out.out (by simp; omega))).more HS5.out.size).vok) hn (HP.out.below (HS5.out.out (by simp; omega)))).mono ?_; clear tok3; rintro r w6 ⟨rfl, hb⟩; rw [HPL.out, HK.out, HY.out]; have HS6 := Lib.hid (HS5.out.below hb); have HN6 := Lib.hid (HN5.out.below hb); clear hb)
      | (refine wpList_allocL rfl 47 7 rfl rfl HN6.out (Array.replicate 432 (.int .u8 0)) (by kernel_rfl) 432 (u8v fun _ => 0) (by rfl) (zero_at 432 (.int .u8 0)) ?_; intro b7 w7 hb7 hc7 hs; have HN7 := Lib.hid hs; clear hs)
      | (refine wpList_storeH rfl 47 (.tmp 7) (.tmp 29) rfl HN7.out 0 rfl (u8v y) rfl rfl (by kernel_rfl) (fun _ _ => rfl) ?_; intro w8 hs; have HN8 := Lib.hid hs; have HS8 := Lib.hid (HS5.out.below (hs.out (by simp; omega))); clear hs; have tok4 := Tok.mk 4)
      | (have hx : Tok 4 := (by assumption); clear hx; refine wpList_load_rd rfl 49 _ rfl 1957 _ Tryd.underlying49 rfl (by kernel_rfl) ⟨b1, 0, none⟩ rfl s.F (fun i hi => by rw [add_lit0]; exact (HS8.out.row 0 rfl).cell hi) ?_)
      | (go_at_call 36; refine (next_ref s.F HSc.out s.aV s.nV s.cV s.V sl e HSe.out _ HF33.out hsl (((HSo.out.below (HS8.out.out (by simp; omega))).more HS8.out.size).vok) hn (HPR.out.below (HS8.out.out (by simp; omega)))).mono ?_; clear tok4; rintro r w9 ⟨rfl, hb⟩; rw [HPL.out, HK.out, HY.out]; have HN9 := Lib.hid (HN8.out.below hb); clear hb)
      | (refine wpList_allocL rfl 47 9 rfl rfl HN9.out (Array.replicate 432 (.int .u8 0)) (by kernel_rfl) 432 (u8v fun _ => 0) (by rfl) (zero_at 432 (.int .u8 0)) ?_; intro b9 wa hb9 hc9 hs; have HNa := Lib.hid hs; clear hs)
      | (refine wpList_storeH rfl 47 (.tmp 9) (.tmp 34) rfl HNa.out 0 rfl (u8v y) rfl rfl (by kernel_rfl) (fun _ _ => rfl) ?_; intro wb hs; have HNb := Lib.hid hs; have HBb := Lib.hid (hs.out (by simp; omega)); clear hs)
      | (go_at_call 37; refine (same12_any m c4 c5 A4 A5 (fun j => PL.getD j 0) _ ((HR45.out.below HBb.out).more HBb.out.size) ((HR5.out.below HBb.out).more HBb.out.size) (by omega)).mono ?_; rintro r wc ⟨rfl, hb⟩; have HNc := Lib.hid (HNb.out.below hb); clear hb)
      | (refine wpList_asG rfl rfl rfl 42 rfl (.bool true) ?_ ?_; (· exact ex_eqS .i64 k rfl rfl rfl))
      | (refine wpList_load_rdG rfl rfl rfl 47 (.tmp 7) rfl 432 _ Tryd.underlying47 rfl (by kernel_rfl) ⟨b7, 0, none⟩ rfl (u8v y) (fun i hi => by rw [add_lit0]; exact HNc.out.cell 1 i rfl hi) ?_)
      | (refine wpList_load_rdG rfl rfl rfl 47 (.tmp 9) rfl 432 _ Tryd.underlying47 rfl (by kernel_rfl) ⟨b9, 0, none⟩ rfl (u8v y) (fun i hi => by rw [add_lit0]; exact HNc.out.cell 0 i rfl hi) ?_)
      | (refine wpList_asG rfl rfl rfl 47 rfl (.bool true) ?_ ?_; (· exact ex_eqFlat 4 432 (u8v y) (u8v y) true rfl rfl rfl Tryd.underlying47 rfl (by kernel_rfl) (by omega) (by kernel_rfl) (com_kinds y y) (by simp)))
      | (refine wpList_asG rfl rfl rfl 52 rfl (.bool true) ?_ ?_; (· exact ex_eqS .i64 k rfl rfl rfl)))
    have hend := (HS5.out.below (HNc.out.out (by simp; omega))).out (by simp; omega)
    go_ret
    exact ⟨rfl, hend⟩
end Go.Proofs.YtjhgndnpihnidaaDoor
