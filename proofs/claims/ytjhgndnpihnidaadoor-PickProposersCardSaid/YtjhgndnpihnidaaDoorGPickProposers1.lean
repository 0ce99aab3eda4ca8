/- A part of what the proofs stand on: PickProposersLaw. -/
import Derived.Test.YtjhgndnpihnidaaDoorGPic21
import Derived.Test.YtjhgndnpihnidaaDoorGPic22
import Derived.Test.YtjhgndnpihnidaaDoorGPic13
/- The law PickProposers. (Printed by a program of mine.) -/
namespace Go.Proofs.YtjhgndnpihnidaaDoor
set_option maxRecDepth 40000
open Go.RowKit
namespace PickProposersLaw
theorem ent_actvR (vs : Array Value) (w : World) : (callFunc 16 vs).run Tryd.prog w = .ok (.enter 16 vs) w := by kernel_rfl
section
variable {P : Program} {ops : Array Oper} {B : Nat} {w0 : World} {o : Oper} {lk : Tmp → SF} {ty rt : TypeId}
theorem opOb_neDiff {xo yo : Operand} (k : IntKind) (x y : Int) (hxy : x ≠ y) (hg : o.guard = none) (hop : o.op = .binOp .neq ty xo yo rt) (hx : OpK lk xo (.int k x)) (hy : OpK lk yo (.int k y)) : opOb P ops B w0 o (SF.is (.bool true)) lk :=
  opOb_val _ hg fun a w _ hf => by
    have h1 := hx.eval hf (by rw [hop]; simp [Op.operands])
    have h2 := hy.eval hf (by rw [hop]; simp [Op.operands])
    unfold execOp
    rw [hop]
    simp only [h1, h2]
    simp [eqGuard, go_sem, hxy]
end
theorem prop_cases (F V : Nat → Value) (n sl : Nat) : (propL F V n sl = [] ∧ pickE (propL F V n sl) = 7) ∨ (pickE (propL F V n sl) = 0 ∧ (propL F V n sl).getD 0 0 < n ∧ isAct V (sl / 4) ((propL F V n sl).getD 0 0) = true) := by
  have h := pick_len (E := effF V) (l := ax V (sl / 4) n) (s := behN (shaB (seedF 0 (sl / 4) (mixN F (sl / 4))) 44) sl) (n := (actIx V (sl / 4) n).length) (want := 1)
  rcases h with h | h
  · have h2 : propL F V n sl = [] := List.length_eq_zero_iff.1 h
    exact .inl ⟨h2, by rw [h2]; rfl⟩
  · right
    refine ⟨by unfold pickE; rw [if_neg (fun e => by unfold propL at e; rw [e] at h; cases h)], ?_⟩
    obtain ⟨q, hq, e⟩ := pick_mem (E := effF V) (l := ax V (sl / 4) n) (s := behN (shaB (seedF 0 (sl / 4) (mixN F (sl / 4))) 44) sl) (n := (actIx V (sl / 4) n).length) (want := 1) (j := 0) (by omega)
    have e2 : (propL F V n sl).getD 0 0 = ax V (sl / 4) n q := e
    rw [e2]
    refine ⟨ax_lt hq, ?_⟩
    have hm : ax V (sl / 4) n q ∈ actIx V (sl / 4) n := by
      unfold ax
      rw [show (actIx V (sl / 4) n).getD q 0 = (actIx V (sl / 4) n)[q] by simp [List.getD, hq]]
      exact List.getElem_mem hq
    unfold actIx at hm
    exact (List.mem_filter.1 hm).2
end PickProposersLaw
open PickProposersLaw in
set_option maxHeartbeats 8000000 in
theorem pickProposers_law (w : World) (s : StV) (hS : StOk w w.heap.size s) (hp : ShaPkg w) (hpr : RefPkg w) : Calls Tryd.prog 3 #[.agg (arr 1957 s.F)] w fun r w' => r = .returned (.bool true) ∧ Below w.heap.size w w' := by
  have HS0 := Lib.hid (HS.nil w)
  have HSo := Lib.hid hS
  have HP := Lib.hid hp
  have HPR := Lib.hid hpr
  have HSc := Lib.hid hS.sc
  obtain ⟨h33, -⟩ := hS.sc.u64 33 (by kernel_rfl)
  obtain ⟨sl, hsl'⟩ : ∃ sl, nat (s.F 33) = sl := ⟨_, rfl⟩
  rw [hsl'] at h33
  have HF33 := Lib.hid h33
  have HSl := Lib.hid hsl'
  clear hS hp hpr h33 hsl'
  have tok1 := Tok.mk 1
  go_enter Tryd.func3, Tryd.ntmps3
  go_upto_if 11 with (first
    | (refine wpList_boxL rfl 49 _ 1 rfl rfl HS0.out 1957 s.F rfl ?_; intro b1 w1 hb1 hc1 hs; have HS1 := Lib.hid hs; clear hs)
    | (go_at_call 12; refine (awake15_any _ (HP.out.below (HS1.out.out (by simp; omega)))).mono ?_; rintro r w2 ⟨rfl, hb2⟩; have HS2 := Lib.hid (HS1.out.below hb2); clear hb2)
    | (refine wpList_load_rd rfl 49 _ rfl 1957 _ Tryd.underlying49 rfl (by kernel_rfl) ⟨b1, 0, none⟩ rfl s.F (fun i hi => by rw [add_lit0]; exact (HS2.out.row 0 rfl).cell hi) ?_)
    | (go_at_call 13; refine (right_any s _ ((HSo.out.below (HS2.out.out (by simp; omega))).more HS2.out.size)).mono ?_; rintro r w3 ⟨b, rfl, hF, hb3⟩; have HF := Lib.hid hF; have HS3 := Lib.hid (HS2.out.below hb3); clear hb3 hF))
  cases b with
  | false =>
    go_wp2_with fail
    go_ret
    exact ⟨rfl, HS3.out.out (by simp; omega)⟩
  | true =>
    have HRF := Lib.hid (HF.out rfl)
    have hn := HRF.out.n
    have hsl : sl < 1099511627776 := by have := HRF.out.slot; rw [HSl.out] at this; exact this
    obtain ⟨e, he⟩ : ∃ e, sl / 4 = e := ⟨_, rfl⟩
    have HSe := Lib.hid he
    obtain ⟨a, ha⟩ : ∃ a, a = (propL s.F s.V s.nV sl).getD 0 0 := ⟨_, rfl⟩
    obtain ⟨k, hk⟩ : ∃ k, k = pickE (propL s.F s.V s.nV sl) := ⟨_, rfl⟩
    have hcase : k = 7 ∨ (k = 0 ∧ a < s.nV ∧ isAct s.V e a = true) := by
      rcases prop_cases s.F s.V s.nV sl with ⟨h1, h2⟩ | ⟨h1, h2, h3⟩
      · exact .inl (by rw [hk]; exact h2)
      · exact .inr ⟨by rw [hk]; exact h1, by rw [ha]; exact h2, by rw [ha, ← he]; exact h3⟩
    have HA := Lib.hid ha.symm
    have HK := Lib.hid hk.symm
    clear HF he ha hk
    go_upto_region 7 with (first
      | (have hx : Tok 1 := (by assumption); clear hx; refine wpList_load_rd rfl 49 _ rfl 1957 _ Tryd.underlying49 rfl (by kernel_rfl) ⟨b1, 0, none⟩ rfl s.F (fun i hi => by rw [add_lit0]; exact (HS3.out.row 0 rfl).cell hi) ?_)
      | (go_at_call 14; refine (proposer_look s.F HSc.out s.aV s.nV s.cV s.V sl e HSe.out _ HF33.out hsl (((HSo.out.below (HS3.out.out (by simp; omega))).more HS3.out.size).vok) hn (HP.out.below (HS3.out.out (by simp; omega)))).mono ?_; clear tok1; rintro r w4 ⟨rfl, hb⟩; rw [HA.out, HK.out]; have HS4 := Lib.hid (HS3.out.below hb); clear hb; have tok2 := Tok.mk 2)
      | (have hx : Tok 2 := (by assumption); clear hx; refine wpList_load_rd rfl 49 _ rfl 1957 _ Tryd.underlying49 rfl (by kernel_rfl) ⟨b1, 0, none⟩ rfl s.F (fun i hi => by rw [add_lit0]; exact (HS4.out.row 0 rfl).cell hi) ?_)
      | (go_at_call 15; refine (proposer_ref s.F HSc.out s.aV s.nV s.cV s.V sl e HSe.out _ HF33.out hsl (((HSo.out.below (HS4.out.out (by simp; omega))).more HS4.out.size).vok) hn (HPR.out.below (HS4.out.out (by simp; omega)))).mono ?_; clear tok2; rintro r w5 ⟨rfl, hb⟩; rw [HA.out, HK.out]; have HS5 := Lib.hid (HS4.out.below hb); clear hb))
    have HB5 := Lib.hid (HS5.out.out (by simp; omega))
    rcases hcase with rfl | ⟨rfl, han, hact⟩
    · skip
      refine wp_region_facts (B := w5.heap.size) (w0 := w5) [SF.is (.int .u64 ((a : Nat) : Int)), SF.is (.int .u64 ((a : Nat) : Int)), SF.is (.bool true), SF.is (.bool true), SF.is (.int .i64 7), SF.is (.int .i64 7), SF.is (.bool true), SF.is (.bool true), SF.is (.bool true), SF.is (.int .i64 7), SF.is (.bool true), SF.is (.bool true), SF.is undef, SF.is undef, SF.is undef, SF.is undef, SF.is undef, SF.is undef, SF.is undef, SF.is undef, SF.is undef, SF.is (.bool true), SF.is (.bool true), SF.is (.bool true)] (by kernel_rfl) (by kernel_rfl) rfl (Nat.le_refl _) (Below.refl _ _) ⟨?_, ?_, ?_, ?_, ?_, ?_, ?_, ?_, ?_, ?_, ?_, ?_, ?_, ?_, ?_, ?_, ?_, ?_, ?_, ?_, ?_, ?_, ?_, ?_, trivial⟩ ?_
      · exact (opOb_move _ rfl (.inl rfl) rfl)
      · exact (opOb_move _ rfl (.inl rfl) rfl)
      · exact opOb_eqSame .u64 (((a : Nat) : Int)) rfl rfl (OpK.tmp rfl) (OpK.tmp rfl)
      · exact (opOb_move _ rfl (.inl rfl) rfl)
      · exact opOb_on 25 rfl rfl ((opOb_move _ rfl (.inl rfl) rfl))
      · exact opOb_on 25 rfl rfl ((opOb_move _ rfl (.inl rfl) rfl))
      · exact opOb_on 25 rfl rfl (opOb_eqSame .i64 (7) rfl rfl (OpK.tmp rfl) (OpK.tmp rfl))
      · exact opOb_pickT rfl rfl rfl (OpK.tmp rfl)
      · exact (opOb_move _ rfl (.inl rfl) rfl)
      · exact opOb_on 30 rfl rfl ((opOb_move _ rfl (.inl rfl) rfl))
      · exact opOb_on 30 rfl rfl (opOb_neDiff .i64 7 0 (by omega) rfl rfl (OpK.tmp rfl) OpK.const)
      · exact opOb_on 30 rfl rfl ((opOb_move _ rfl (.inl rfl) rfl))
      · exact opOb_off 33 rfl rfl (by simp)
      · exact opOb_off 33 rfl rfl (by simp)
      · exact opOb_off 33 rfl rfl (by simp)
      · exact opOb_off 33 rfl rfl (by simp)
      · exact opOb_off 33 rfl rfl (by simp)
      · exact opOb_off 33 rfl rfl (by simp)
      · exact opOb_off 33 rfl rfl (by simp)
      · exact opOb_off 33 rfl rfl (by simp)
      · exact opOb_off 33 rfl rfl (by simp)
      · exact opOb_on 30 rfl rfl (opOb_pickT rfl rfl rfl (OpK.const))
      · exact opOb_pickT rfl rfl rfl (OpK.tmp rfl)
      · exact (opOb_move _ rfl (.inr rfl) rfl)
      · intro w' hb
        simp only [fin, SF.is, forall_eq]
        simp only [Act.put, List.setIfInBounds_toArray, List.set_cons_succ, List.set_cons_zero]
        have hend := Lib.hid (HB5.out.trans (hb.mono HB5.out.size))
        clear hb
        go_wp2_with fail
        go_ret
        exact ⟨rfl, hend.out⟩
    · have HAct := Lib.hid hact
      have HSv := Lib.hid (HSo.out.vok)
      obtain ⟨ad, hAd, _, _, _⟩ := HSv.out.at_ han
      have HAd := Lib.hid hAd
      have HC721 : Hid (∀ w', Below w5.heap.size w5 w' → w'.cell? ⟨b1, 721, none⟩ = some (.slice (some ad) s.nV s.cV)) := Lib.hid (fun w' hb => by rw [← HAd.out, ← HSv.out.f]; exact (row_below (HS5.out.row 0 rfl) hb (HS5.out.lt 0 rfl)).cell (show 721 < 1957 by omega))
      have HC33 : Hid (∀ w', Below w5.heap.size w5 w' → w'.cell? ⟨b1, 33, none⟩ = some (.int .u64 ((sl : Nat) : Int))) := Lib.hid (fun w' hb => by rw [← HF33.out]; exact (row_below (HS5.out.row 0 rfl) hb (HS5.out.lt 0 rfl)).cell (show 33 < 1957 by omega))
      have HCV : Hid (∀ w', Below w5.heap.size w5 w' → ∀ q, q < 86 → w'.cell? ((ad.add (a * 86)).add q) = some (s.V (a * 86 + q))) := Lib.hid (fun w' hb => by
        obtain ⟨ad2, e2, _, h3, _⟩ := (HSv.out.below (HB5.out.trans (hb.mono HB5.out.size))).at_ han
        rw [HAd.out] at e2; injection e2 with e2; subst e2
        exact h3)
      clear hact hAd
      refine wp_region_facts (B := w5.heap.size) (w0 := w5) [SF.is (.int .u64 ((a : Nat) : Int)), SF.is (.int .u64 ((a : Nat) : Int)), SF.is (.bool true), SF.is (.bool true), SF.is (.int .i64 0), SF.is (.int .i64 0), SF.is (.bool true), SF.is (.bool true), SF.is (.bool true), SF.is (.int .i64 0), SF.is (.bool false), SF.is (.bool false), SF.is (.pointer (some ⟨b1, 721, none⟩)), SF.is (.slice (some ad) (s.nV) (s.cV)), SF.is (.int .u64 ((a : Nat) : Int)), SF.is (.pointer (some (ad.add (a * 86)))), SF.is (.agg (arr 86 fun q => s.V (a * 86 + q))), SF.is (.pointer (some ⟨b1, 33, none⟩)), SF.is (.int .u64 ((sl : Nat) : Int)), SF.is (.int .u64 ((e : Nat) : Int)), SF.is (.bool true), SF.is (.bool true), SF.is (.bool true), SF.is (.bool true)] (by kernel_rfl) (by kernel_rfl) rfl (Nat.le_refl _) (Below.refl _ _) ⟨?_, ?_, ?_, ?_, ?_, ?_, ?_, ?_, ?_, ?_, ?_, ?_, ?_, ?_, ?_, ?_, ?_, ?_, ?_, ?_, ?_, ?_, ?_, ?_, trivial⟩ ?_
      · exact (opOb_move _ rfl (.inl rfl) rfl)
      · exact (opOb_move _ rfl (.inl rfl) rfl)
      · exact opOb_eqSame .u64 (((a : Nat) : Int)) rfl rfl (OpK.tmp rfl) (OpK.tmp rfl)
      · exact (opOb_move _ rfl (.inl rfl) rfl)
      · exact opOb_on 25 rfl rfl ((opOb_move _ rfl (.inl rfl) rfl))
      · exact opOb_on 25 rfl rfl ((opOb_move _ rfl (.inl rfl) rfl))
      · exact opOb_on 25 rfl rfl (opOb_eqSame .i64 (0) rfl rfl (OpK.tmp rfl) (OpK.tmp rfl))
      · exact opOb_pickT rfl rfl rfl (OpK.tmp rfl)
      · exact (opOb_move _ rfl (.inl rfl) rfl)
      · exact opOb_on 30 rfl rfl ((opOb_move _ rfl (.inl rfl) rfl))
      · exact opOb_on 30 rfl rfl (opOb_neSame .i64 0 rfl rfl (OpK.tmp rfl) OpK.const)
      · exact opOb_on 30 rfl rfl ((opOb_move _ rfl (.inl rfl) rfl))
      · exact opOb_on 33 rfl rfl (opOb_fld rfl rfl (OpK.tmp rfl) (fun w => by simp [go_sem]))
      · exact opOb_on 33 rfl rfl (opOb_ld rfl rfl (OpK.tmp rfl) (fun w' hb => PickDraw.run_ldSl w' _ _ _ _ (HC721.out w' hb) Tryd.underlying36))
      · exact opOb_on 33 rfl rfl ((opOb_move _ rfl (.inl rfl) rfl))
      · exact opOb_on 33 rfl rfl (opOb_idx rfl rfl (OpK.tmp rfl) (OpK.tmp rfl) (fun w => ShufRefList.run_idxZV (z := 86) w Tryd.underlying36 (by kernel_rfl) ad han))
      · exact opOb_on 33 rfl rfl (opOb_ld rfl rfl (OpK.tmp rfl) (fun w' hb => run_loadAt_rd w' (ad.add (a * 86)) 86 57 _ (fun q => s.V (a * 86 + q)) (HCV.out w' hb) Tryd.underlying57 rfl (by kernel_rfl)))
      · exact opOb_on 33 rfl rfl (opOb_fld rfl rfl (OpK.tmp rfl) (fun w => by simp [go_sem]))
      · exact opOb_on 33 rfl rfl (opOb_ld rfl rfl (OpK.tmp rfl) (fun w' hb => run_ld1 w' _ _ .u64 _ (HC33.out w' hb) Tryd.underlying22))
      · exact opOb_on 33 rfl rfl (opOb_bin rfl rfl rfl (OpK.tmp rfl) OpK.const (fun w => PickTop.quo4 sl e HSe.out hsl w))
      · exact opOb_on 33 rfl rfl (opOb_fn2 ent_actvR rfl rfl (OpK.tmp rfl) (OpK.tmp rfl) (fun w' hb => (active_ref (fun q => s.V (a * 86 + q)) (HSv.out.sc a han) e w').mono fun r w'' ⟨he', hb2⟩ => ⟨_, by rw [he']; exact congrArg (fun b : Bool => Ending.returned (.bool b)) HAct.out, rfl, hb2⟩))
      · exact opOb_on 30 rfl rfl (opOb_pickF rfl rfl rfl (OpK.tmp rfl))
      · exact opOb_pickT rfl rfl rfl (OpK.tmp rfl)
      · exact (opOb_move _ rfl (.inr rfl) rfl)
      · intro w' hb
        simp only [fin, SF.is, forall_eq]
        simp only [Act.put, List.setIfInBounds_toArray, List.set_cons_succ, List.set_cons_zero]
        have hend := Lib.hid (HB5.out.trans (hb.mono HB5.out.size))
        clear hb
        go_wp2_with fail
        go_ret
        exact ⟨rfl, hend.out⟩
end Go.Proofs.YtjhgndnpihnidaaDoor
