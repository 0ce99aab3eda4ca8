/- The row of LiveTurns and its card: for every input the call returns true and leaves what it was given as it was; the listed package variables lie as the program's text lays them. -/
import Derived.Test.YtomilckcgmhfcaaDoorGLiveTurns6
import Derived.Test.YtomilckcgmhfcaaDoorCards
import Derived.Test.YtomilckcgmhfcaaDoorTie
namespace Go.Proofs.YtomilckcgmhfcaaDoor.liveTurns
open Go.ChangeShapes Go.WideShapes Go.ChangeAt Go.RowKit
open Go.ChangeMaps (open_string shut_string)
set_option linter.unusedVariables false
set_option maxRecDepth 100000

theorem own : ownKnob Tryd.prog.godebug = none := by kernel_rfl
theorem laidOut : laidOutB Tryd.prog = true := by kernel_rfl

noncomputable def laidWorld (os : Os) : World := (laidInto (laidInto (laidInto (laidInto (World.holding Tryd.prog os ⟨#[], #[], []⟩) 2 csD) 3 csK) 0 csH) 1 csK)
set_option maxRecDepth 100000 in
theorem ztd (os : Os) : laidMet Tryd.prog Rows.liveTurnsRow.laid ((laidWorld os).forCall (fun _ _ => 0) ⟨#[], #[.agg z49, .agg z49], []⟩).memory :=
 laidMet_of_run' 8 (by kernel_rfl) (by kernel_rfl)

theorem wit (w : World) (base : Nat) : Input.okWide Tryd.prog w .any base 4 ⟨#[], #[.agg z49, .agg z49], []⟩ := by
 refine ⟨fun o ho => by simp at ho, fun gv hg => by simp at hg, by kernel_rfl, Tryd.f4, Tryd.func4, by kernel_rfl, by kernel_rfl, by kernel_rfl, by kernel_rfl, fun j t v h1 h2 => ?_⟩
 rw [Tryd.params4] at h1
 have hj : j < 2 := (Array.getElem?_eq_some_iff.1 h1).1
 match j, hj, h1, h2 with
 | 0, _, h1, h2 => injection h1 with h1; injection h2 with h2; subst h1 h2; exact zps w base
 | 1, _, h1, h2 => injection h1 with h1; injection h2 with h2; subst h1 h2; exact zps w base

theorem contract (H : Type) (enc : TypeId × Value → H) (W : World) (base : Nat) (args : Array Value) (ds gs : List (DataW H)) (before : List MemPlace)
    (hval0 : ∀ (j : Nat) t v, Tryd.f4.params[j]? = some t → args[j]? = some v → Value.okWide Tryd.prog W .any base t v)
    (hW : DataW.Whole enc Tryd.prog Tryd.f4.params.toList Rows.liveTurnsSpec.vars false W args.toList ds gs before) (hL : laidMetH Tryd.prog Rows.liveTurnsRow.laid W)
    (hsz0 : (DataW.weightsEach Tryd.prog (Tryd.f4.params.toList ++ Rows.liveTurnsSpec.plain.varTypes Tryd.prog) (ds ++ gs)).all (· ≤ reachBytes) = true) :
    Calls Tryd.prog 4 args W fun e W' => ∃ v, e = .returned v ∧ Rows.liveTurnsSpec.post enc Tryd.prog Tryd.f4 false true false false W args v W' := by
 have hval : ∀ (j : Nat) t v, Tryd.f4.params[j]? = some t → args[j]? = some v → Value.okWide Tryd.prog W .any base t v := hval0
 have hW' := hW
 obtain ⟨p, q, hA0, hV, rfl, hfz, hnd⟩ := hW
 have hA : DataW.TrodAll enc Tryd.prog W 0 (fun _ => true) true Tryd.f4.params.toList args.toList ds p := hA0
 have hsz := hsz0
 rw [Tryd.params4] at hA hval hsz
 obtain ⟨v0, vs0, d0, ds0, p0, q0, hargs, rfl, rfl, h0, r0⟩ := trodAll_cons hA
 obtain ⟨v1, vs1, d1, ds1, p1, q1, rfl, rfl, rfl, h1, r1⟩ := trodAll_cons r0
 obtain ⟨rfl, rfl, rfl⟩ := trodAll_nil r1
 obtain rfl : args = #[v0, v1] := by cases args; simp_all
 obtain ⟨rfl, rfl⟩ := trodVars_none hV
 obtain ⟨ps0, hl0, -⟩ := (show laidMet Tryd.prog [("math/bits.deBruijn64tab", Rows.laid_math_bits_deBruijn64tab), ("pharos/pharosref02.constants", Rows.laid_pharos_pharosref02_constants), ("pharos/sha.start", Rows.laid_pharos_sha_start), ("pharos/sha.round", Rows.laid_pharos_sha_round)] W from hL)
 have t_deBruijn := zm8 hl0
 obtain ⟨ps1, hl1⟩ := zib hl0
 have t_constants := zlm hl1
 obtain ⟨ps2, hl2⟩ := zib hl1
 have t_start := zrh hl2
 obtain ⟨ps3, hl3⟩ := zib hl2
 have t_round := zri hl3
 have k0 := h0
 have lt0 : ∀ x ∈ p0, x.block < W.heap.size := by obtain ⟨m, hm⟩ := k0; exact DataW.trod_lt m _ _ _ hm
 obtain ⟨a0, rfl, ok0⟩ := znv (hval 0 49 v0 rfl rfl) h0
 have k1 := h1
 have lt1 : ∀ x ∈ p1, x.block < W.heap.size := by obtain ⟨m, hm⟩ := k1; exact DataW.trod_lt m _ _ _ hm
 obtain ⟨a1, rfl, ok1⟩ := znv (hval 1 49 v1 rfl rfl) h1
 clear hA0 hval0
 refine (zlq W a0 ok0 a1 ok1 ⟨t_start, t_round⟩ t_constants (zw1 t_deBruijn)).mono fun e W' ⟨he, bel⟩ => ?_
 subst he
 exact ⟨_, rfl, _, _, _, [], _, [], hW', trodAll_mk1 (shut_bool Ty4 _), (trodAll_cons_mk (Below.trod laidOut (by kernel_rfl) (of_decide_eq_true (by kernel_rfl)) k0 bel lt0) (trodAll_cons_mk (Below.trod laidOut (by kernel_rfl) (of_decide_eq_true (by kernel_rfl)) k1 bel lt1) trodAll_mk0)), rfl, bel.frame _, fun h => by cases h⟩

set_option maxRecDepth 100000 in
theorem lifted (os : Os) (started : os.Started) (H : Type) (enc : TypeId × Value → H) (F : Stop.Interp) :
 ReturnsInHanded {} Tryd.checked os 4 .any ((OpenSpec.ofChange Rows.liveTurnsSpec).preRow enc Tryd.prog Tryd.f4 Rows.liveTurnsRow.domain false Rows.liveTurnsRow.laid) (((OpenSpec.ofChange Rows.liveTurnsSpec).at F).post enc Tryd.prog Tryd.f4 false true false false) := by
 refine returnsInHanded_of_row (C := Tryd.checked) (s := (OpenSpec.ofChange Rows.liveTurnsSpec)) own started (by kernel_rfl) Tryd.func4
   (zke (enc := enc) (C := Tryd.checked) false (laidWorld os) #[.agg z49, .agg z49] rfl (by kernel_rfl) (by kernel_rfl) wit (zvl 8 (by kernel_rfl) (by kernel_rfl) (ztd os))) ?_
 intro W base args ds gs before hval hW _ hcond hsz hL _ _
 exact contract H enc W base args ds gs before hval hW hL hsz

theorem said : Rows.LiveTurnsSaid :=
 OpenClaim.holds_of_cond 4 Tryd.f4 rfl rfl rfl rfl rfl rfl rfl ⟨rfl, rfl, rfl, rfl, rfl⟩ rfl rfl rfl rfl rfl (by kernel_rfl) Tryd.func4 (by kernel_rfl)
   (of_decide_eq_true (by kernel_rfl)) (by unfold Func.isWrapper; first | (rw [if_pos (by decide +kernel)]; kernel_rfl) | (rw [if_neg (by decide +kernel)]; exact ⟨rfl, rfl⟩))
   (fun os started H enc _ F => by rw [OpenClaim.pre_eq_preRow]; exact lifted os started H enc F)

theorem plain (f : FuncId) (fn : Func) (hf : Tryd.pinned.checked.prog.funcNamed "pharos/pharoslaw11.LiveTurns" = some f) (hfn : Tryd.pinned.checked.prog.funcs[f]? = some fn) :
 false = Tryd.pinned.checked.prog.looks [] ∧ ∀ (j : Nat) t, fn.params[j]? = some t → Tryd.pinned.checked.prog.wantsStandIn t = false := by
 obtain rfl : f = 4 := Option.some.inj ((show Tryd.prog.funcNamed "pharos/pharoslaw11.LiveTurns" = some 4 by kernel_rfl).symm.trans hf) |>.symm
 obtain rfl : fn = Tryd.f4 := (Option.some.inj (Tryd.func4.symm.trans hfn)).symm
 refine ⟨by kernel_rfl, fun j t ht => ?_⟩
 rw [Tryd.params4] at ht
 have ht' := Array.mem_of_getElem? ht
 simp at ht'
 subst ht'
 exact (show Tryd.prog.wantsStandIn 49 = false by kernel_rfl)

theorem proved : Rows.LiveTurnsCardSaid :=
 Claim7.holds_tied_plain_at .later [] _ _ _ _ said (fun _ h => by cases h) (by kernel_rfl) (fun _ h => by cases h) liveTurns_row_tie rfl ⟨rfl, rfl⟩ (by kernel_rfl) rfl plain (by kernel_rfl)
#print axioms proved
end Go.Proofs.YtomilckcgmhfcaaDoor.liveTurns
