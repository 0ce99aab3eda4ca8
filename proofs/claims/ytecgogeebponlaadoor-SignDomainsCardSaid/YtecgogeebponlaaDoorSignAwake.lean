/- The program is awake: its fixed answers in chapter 16. -/
import Derived.Test.YtecgogeebponlaaDoorSignDomain
import Derived.Test.YtecgogeebponlaaDoorSignGood
import Derived.Test.YtecgogeebponlaaDoorGuard
namespace Go.Proofs.YtecgogeebponlaaDoor
set_option maxRecDepth 40000
open Go.RowKit
namespace SignAwake
abbrev D3 : Nat → Nat := domN 3 (fun _ => 0) (fun _ => 0)
theorem z64 : shaB (fun _ => 0) 64 0 = 245 := by kernel_rfl
theorem d0 : u8v D3 0 = .int .u8 3 := by
  show Value.int .u8 ((leB 3 0 : Nat) : Int) = _
  rw [show leB 3 0 = 3 by decide]; rfl
theorem d4 : u8v D3 4 = .int .u8 245 := by
  show Value.int .u8 ((shaB (catN 32 (padN 4 fun _ => 0) fun _ => 0) 64 0 : Nat) : Int) = _
  rw [shaB_congr (m' := fun _ => 0) (fun i _ => by unfold catN padN; split <;> (try split) <;> rfl), z64]; rfl
theorem s0 : shaB (catN 32 (fun _ => 0) (fun _ => 0)) 64 0 = 245 := by
  rw [shaB_congr (m' := fun _ => 0) (fun i _ => by unfold catN; split <;> rfl), z64]
theorem idx0 (X : Nat → Nat) (w : World) : (Instr.index 24 (rootV X) (.int .i64 0)).run Tryd.prog w = .ok (.int .u8 ((X 0 : Nat) : Int)) w := by kernel_rfl
theorem idx_op {o : Oper} {a : Act} {x : Operand} (X : Nat → Nat) (w : World) (ho : o.op = .index 24 x (.const (.int .i64 0))) (hx : a.eval x = rootV X) : (execOp a.eval o).run Tryd.prog w = .ok (.value (.int .u8 ((X 0 : Nat) : Int))) w := by
  unfold execOp
  rw [ho]
  simp only [hx]
  have h : a.eval (.const (.int .i64 0)) = .int .i64 0 := rfl
  simp [h, idx0]
theorem idx245 {o : Oper} {a : Act} {x : Operand} (w : World) (ho : o.op = .index 24 x (.const (.int .i64 0))) (hx : a.eval x = rootV (shaB (catN 32 (fun _ => 0) (fun _ => 0)) 64)) : (execOp a.eval o).run Tryd.prog w = .ok (.value (.int .u8 245)) w := by
  have h := idx_op _ w ho hx
  rw [s0] at h
  exact h
theorem one_in : inB D3 1 D3 = true := inB_t (j := 0) (by omega) (fun i _ => by rw [show 0 * 32 + i = i by omega])
end SignAwake
open SignAwake in
set_option maxHeartbeats 4000000 in
theorem awake_any (w : World) (hp : ShaPkg w) : Calls Tryd.prog 7 #[] w fun e w' => e = .returned (.bool true) ∧ Below w.heap.size w w' := by
  have HP := Lib.hid hp
  have HS0 := Lib.hid (HS.nil w)
  obtain ⟨D, hD⟩ : ∃ D, D = D3 := ⟨_, rfl⟩
  have HD := Lib.hid (show domN 3 (fun _ => 0) (fun _ => 0) = D from hD.symm)
  have d0' := Lib.hid (show u8v D 0 = .int .u8 3 by rw [hD]; exact d0)
  have d4' := Lib.hid (show u8v D 4 = .int .u8 245 by rw [hD]; exact d4)
  have D1 := Lib.hid (show inB D 1 D = true by rw [hD]; exact one_in)
  clear hp hD
  have tok1 := Tok.mk 1
  go_enter Tryd.func7, Tryd.ntmps7
  go_wp2_with (first
    | (go_at_call 11; refine (deposits_look _ HP.out).mono ?_; rintro e w1 ⟨rfl, hb1⟩; rw [HD.out]; have HS1 := Lib.hid (HS0.out.below hb1); clear hb1)
    | (refine wpList_allocL rfl 24 1 rfl rfl HS1.out (Array.replicate 32 (.int .u8 0)) (by kernel_rfl) 32 (u8v fun _ => 0) (by rfl) (zero_at 32 (.int .u8 0)) ?_; intro b2 w2 hb2 hc2 hs2; have HS2 := Lib.hid hs2; clear hs2)
    | (refine wpList_storeH rfl 24 (.tmp 1) (.tmp 2) rfl HS2.out 0 rfl (u8v D) rfl rfl (by kernel_rfl) (fun _ _ => rfl) ?_; intro w3 hs; have c0 := (hs.cell 0 0 rfl (by show 0 < 32; omega)).trans (congrArg some d0'.out); have c4 := (hs.cell 0 4 rfl (by show 4 < 32; omega)).trans (congrArg some d4'.out); have HS3 := Lib.hid hs; clear hs)
    | (have hx : Tok 1 := (by assumption); refine wpList_load_rdG rfl rfl rfl 24 _ rfl 32 _ Tryd.underlying24 rfl (by kernel_rfl) ⟨b2, 0, none⟩ rfl (u8v D) (fun i hi => by rw [add_lit0]; exact HS3.out.cell 0 i rfl hi) ?_; clear hx)
    | (go_at_call 19; have hx : Tok 1 := (by assumption); clear hx tok1; refine (good_look 0 0 none (fun _ => 0) D _ Rd.none_ (by omega)).mono ?_; rintro e w4 ⟨rfl, hb4⟩; rw [inB_f (fun j h => absurd h (by omega))]; have HS4 := Lib.hid (HS3.out.below hb4); clear hb4; have tok2 := Tok.mk 2)
    | (have hx : Tok 2 := (by assumption); refine wpList_load_rdG rfl rfl rfl 24 _ rfl 32 _ Tryd.underlying24 rfl (by kernel_rfl) ⟨b2, 0, none⟩ rfl (u8v D) (fun i hi => by rw [add_lit0]; exact HS4.out.cell 0 i rfl hi) ?_; clear hx)
    | (have hx : Tok 2 := (by assumption); refine wpList_bs1G rfl rfl rfl Tryd.underlying32 (z := 32) (by kernel_rfl) (by omega) (by omega) (v0 := .agg (Array.replicate 32 (.int .u8 0))) (by kernel_rfl) _ rfl (u8v D) rfl HS4.out ?_; clear hx; intro b5 w5 hb5 hc5 hs5; have HS5 := Lib.hid hs5; clear hs5)
    | (go_at_call 19; have hx : Tok 2 := (by assumption); clear hx tok2; refine (good_look 1 1 (some ⟨b5, 0, none⟩) D D _ (Rd.of_row (HS5.out.row 0 rfl) (by show 1 * 32 ≤ 32; omega) (HS5.out.lt 0 rfl)) (by omega)).mono ?_; rintro e w6 ⟨rfl, hb6⟩; rw [D1.out]; have HS6 := Lib.hid (HS5.out.below hb6); clear hb6)
    | (go_at_call 13; refine (sroot_look (fun _ => 0) (fun _ => 0) (fun _ => by omega) (fun _ => by omega) _ (HP.out.below (HS6.out.out (by simp; omega)))).mono ?_; rintro e w7 ⟨rfl, hb7⟩; have HS7 := Lib.hid (HS6.out.below hb7); clear hb7)
    | (refine wpList_asG rfl rfl rfl 26 rfl (.int .u8 245) ?_ ?_; (· exact idx245 _ rfl rfl)))
  go_ret
  exact ⟨rfl, HS7.out.out (by simp; omega)⟩
end Go.Proofs.YtecgogeebponlaaDoor
