/- The row of LiveOrders and its card: for every input the call returns true and leaves what it was given as it was; the listed package variables lie as the program's text lays them. -/
import Derived.Test.YtomilckcgmhfcaaDoorGLiveOrders1
import Derived.Test.YtomilckcgmhfcaaDoorGLiv5
import Derived.Test.YtomilckcgmhfcaaDoorGLiveOrders2
import Derived.Test.YtomilckcgmhfcaaDoorGLiv29
import Derived.Test.YtomilckcgmhfcaaDoorCards
import Derived.Test.YtomilckcgmhfcaaDoorTie
namespace Go.Proofs.YtomilckcgmhfcaaDoor.liveOrders
open Go.ChangeShapes Go.WideShapes Go.ChangeAt Go.RowKit
open Go.ChangeMaps (open_string shut_string)
set_option linter.unusedVariables false
set_option maxRecDepth 100000

theorem own : ownKnob Tryd.prog.godebug = none := by kernel_rfl
theorem laidOut : laidOutB Tryd.prog = true := by kernel_rfl

noncomputable def laidWorld (os : Os) : World := (laidInto (laidInto (laidInto (World.holding Tryd.prog os ⟨#[], #[], []⟩) 2 csD) 0 csH) 1 csK)
set_option maxRecDepth 100000 in
theorem laid_met (os : Os) : laidMet Tryd.prog Rows.liveOrdersRow.laid ((laidWorld os).forCall (fun _ _ => 0) ⟨#[], #[.agg z49, .slice none 0 0], []⟩).memory :=
 laidMet_of_run' 8 (by kernel_rfl) (by kernel_rfl)

theorem wit (w : World) (base : Nat) : Input.okWide Tryd.prog w .any base 3 ⟨#[], #[.agg z49, .slice none 0 0], []⟩ := by
 refine ⟨fun o ho => by simp at ho, fun gv hg => by simp at hg, by kernel_rfl, Tryd.f3, Tryd.func3, by kernel_rfl, by kernel_rfl, by kernel_rfl, by kernel_rfl, fun j t v h1 h2 => ?_⟩
 rw [Tryd.params3] at h1
 have hj : j < 2 := (Array.getElem?_eq_some_iff.1 h1).1
 match j, hj, h1, h2 with
 | 0, _, h1, h2 => injection h1 with h1; injection h2 with h2; subst h1 h2; exact z49_ok w base
 | 1, _, h1, h2 => injection h1 with h1; injection h2 with h2; subst h1 h2; exact Value.okWide_of_okWideB (by kernel_rfl)

theorem contract (H : Type) (enc : TypeId × Value → H) (W : World) (base : Nat) (args : Array Value) (ds gs : List (DataW H)) (before : List MemPlace)
  (hval0 : ∀ (j : Nat) t v, Tryd.f3.params[j]? = some t → args[j]? = some v → Value.okWide Tryd.prog W .any base t v)
  (hW : DataW.Whole enc Tryd.prog Tryd.f3.params.toList Rows.liveOrdersSpec.vars false W args.toList ds gs before) (hL : laidMetH Tryd.prog Rows.liveOrdersRow.laid W)
  (hsz0 : (DataW.weightsEach Tryd.prog (Tryd.f3.params.toList ++ Rows.liveOrdersSpec.plain.varTypes Tryd.prog) (ds ++ gs)).all (· ≤ reachBytes) = true) :
  Calls Tryd.prog 3 args W fun e W' => ∃ v, e = .returned v ∧ Rows.liveOrdersSpec.post enc Tryd.prog Tryd.f3 false true false false W args v W' := by
 have hval : ∀ (j : Nat) t v, Tryd.f3.params[j]? = some t → args[j]? = some v → Value.okWide Tryd.prog W .any base t v := hval0
 have hW' := hW
 obtain ⟨p, q, hA0, hV, rfl, hfz, hnd⟩ := hW
 have hA : DataW.TrodAll enc Tryd.prog W 0 (fun _ => true) true Tryd.f3.params.toList args.toList ds p := hA0
 have hsz := hsz0
 rw [Tryd.params3] at hA hval hsz
 obtain ⟨v0, vs0, d0, ds0, p0, q0, hargs, rfl, rfl, h0, r0⟩ := trodAll_cons hA
 obtain ⟨v1, vs1, d1, ds1, p1, q1, rfl, rfl, rfl, h1, r1⟩ := trodAll_cons r0
 obtain ⟨rfl, rfl, rfl⟩ := trodAll_nil r1
 obtain rfl : args = #[v0, v1] := by cases args; simp_all
 obtain ⟨rfl, rfl⟩ := trodVars_none hV
 obtain ⟨ps0, hl0, -⟩ := (show laidMet Tryd.prog [("math/bits.deBruijn64tab", Rows.laid_math_bits_deBruijn64tab), ("pharos/sha.start", Rows.laid_pharos_sha_start), ("pharos/sha.round", Rows.laid_pharos_sha_round)] W from hL)
 have t_deBruijn := tab_deBruijn hl0
 obtain ⟨ps1, hl1⟩ := laid_tail hl0
 have t_start := tab_start hl1
 obtain ⟨ps2, hl2⟩ := laid_tail hl1
 have t_round := tab_round hl2
 have k0 := h0
 have lt0 : ∀ x ∈ p0, x.block < W.heap.size := by obtain ⟨m, hm⟩ := k0; exact DataW.trod_lt m _ _ _ hm
 obtain ⟨a0, rfl, ok0⟩ := st_open (hval 0 49 v0 rfl rfl) h0
 have k1 := h1
 have lt1 : ∀ x ∈ p1, x.block < W.heap.size := by obtain ⟨m, hm⟩ := k1; exact DataW.trod_lt m _ _ _ hm
 obtain ⟨a1, len1, cap1, rfl⟩ := okWide_slice Tryd.underlying37 (hval 1 37 v1 rfl rfl)
 obtain ⟨z1, rd1, zb1, le1, cp1⟩ : ∃ z : Nat → Nat, Rd W W.heap.size a1 len1 (fun i => .int .u64 ((z i : Nat) : Int)) ∧ (∀ i, z i < 18446744073709551616) ∧ len1 ≤ 140737488351232 ∧ len1 ≤ cap1 := by
  obtain ⟨fuel, hf⟩ := h1
  rcases open_ints Tryd.underlying37 Tryd.underlying22 (by kernel_rfl) hf with ⟨hcs, _⟩ | ⟨x, l, c, zs, hcs, _, hl, hm, hz, hx, hcell, hwz⟩
  ·simp [Value.cells] at hcs
   obtain ⟨rfl, rfl, rfl⟩ := hcs
   exact ⟨fun _ => 0, Rd.none_, fun _ => by simp, by omega, by omega⟩
  ·simp [Value.cells] at hcs
   obtain ⟨rfl, rfl, rfl⟩ := hcs
   simp only [Prod.mk.injEq] at hx
   have hzl : zs.length = cap1 := by simpa using hz
   obtain ⟨el1, sp1, hd1, hel⟩ : ∃ el sp, d1 = .slice el sp ∧ el.length = len1 := ⟨_, _, hx.1, by simp [lits]; omega⟩
   obtain ⟨z, hr, hb⟩ := rd_ints (M := 18446744073709551616) (len := len1) (fun n hn => wf_u64 (hwz n hn)) (by omega) hcell (by omega)
   exact ⟨z, hr, hb, (by have := sized_slice hsz (j := 1) (t := 37) (e := 22) (elems := el1) (spare := sp1) rfl (by simp [hd1]) Tryd.underlying37; rw [show Tryd.prog.bytesOf 22 = 8 by kernel_rfl] at this; simp only [reachBytes] at this; omega), (by omega)⟩
 clear hA0 hval0
 refine (liveOrders_law W a0 ok0 a1 len1 cap1 z1 rd1 zb1 le1 cp1 ⟨t_start, t_round⟩ (tz_pkg t_deBruijn)).mono fun e W' ⟨he, bel⟩ => ?_
 subst he
 exact ⟨_, rfl, _, _, _, [], _, [], hW', trodAll_mk1 (shut_bool Tryd.underlying4 _), (trodAll_cons_mk (Below.trod laidOut (by kernel_rfl) (of_decide_eq_true (by kernel_rfl)) k0 bel lt0) (trodAll_cons_mk (Below.trod laidOut (by kernel_rfl) (of_decide_eq_true (by kernel_rfl)) k1 bel lt1) trodAll_mk0)), rfl, bel.frame _, fun h => by cases h⟩

set_option maxRecDepth 100000 in
theorem lifted (os : Os) (started : os.Started) (H : Type) (enc : TypeId × Value → H) (F : Stop.Interp) :
  ReturnsInHanded {} Tryd.checked os 3 .any ((OpenSpec.ofChange Rows.liveOrdersSpec).preRow enc Tryd.prog Tryd.f3 Rows.liveOrdersRow.domain false Rows.liveOrdersRow.laid) (((OpenSpec.ofChange Rows.liveOrdersSpec).at F).post enc Tryd.prog Tryd.f3 false true false false) := by
 refine returnsInHanded_of_row (C := Tryd.checked) (s := (OpenSpec.ofChange Rows.liveOrdersSpec)) own started (by kernel_rfl) Tryd.func3
  (witness_row_st (enc := enc) (C := Tryd.checked) false (laidWorld os) #[.agg z49, .slice none 0 0] rfl (by kernel_rfl) (by kernel_rfl) wit (row_st 8 (by kernel_rfl) (by kernel_rfl) (laid_met os))) ?_
 intro W base args ds gs before hval hW _ hcond hsz hL _ _
 exact contract H enc W base args ds gs before hval hW hL hsz

theorem said : Rows.LiveOrdersSaid :=
 OpenClaim.holds_of_cond 3 Tryd.f3 rfl rfl rfl rfl rfl rfl rfl ⟨rfl, rfl, rfl, rfl, rfl⟩ rfl rfl rfl rfl rfl (by kernel_rfl) Tryd.func3 (by kernel_rfl)
  (of_decide_eq_true (by kernel_rfl)) (by unfold Func.isWrapper; first | (rw [if_pos (by decide +kernel)]; kernel_rfl) | (rw [if_neg (by decide +kernel)]; exact ⟨rfl, rfl⟩))
  (fun os started H enc _ F => by rw [OpenClaim.pre_eq_preRow]; exact lifted os started H enc F)

/-- No parameter wants a stand-in; the program's own looks are off. -/
theorem plain (f : FuncId) (fn : Func) (hf : Tryd.pinned.checked.prog.funcNamed "pharos/pharoslaw11.LiveOrders" = some f) (hfn : Tryd.pinned.checked.prog.funcs[f]? = some fn) :
  false = Tryd.pinned.checked.prog.looks [] ∧ ∀ (j : Nat) t, fn.params[j]? = some t → Tryd.pinned.checked.prog.wantsStandIn t = false := by
 obtain rfl : f = 3 := Option.some.inj ((show Tryd.prog.funcNamed "pharos/pharoslaw11.LiveOrders" = some 3 by kernel_rfl).symm.trans hf) |>.symm
 obtain rfl : fn = Tryd.f3 := (Option.some.inj (Tryd.func3.symm.trans hfn)).symm
 refine ⟨by kernel_rfl, fun j t ht => ?_⟩
 rw [Tryd.params3] at ht
 have ht' := Array.mem_of_getElem? ht
 simp at ht'
 rcases ht' with rfl | rfl
 all_goals first | exact (show Tryd.prog.wantsStandIn 37 = false by kernel_rfl) | exact (show Tryd.prog.wantsStandIn 49 = false by kernel_rfl)

theorem proved : Rows.LiveOrdersCardSaid :=
 Claim7.holds_tied_plain_at .later [] _ _ _ _ said (fun _ h => by cases h) (by kernel_rfl) (fun _ h => by cases h) liveOrders_row_tie rfl ⟨rfl, rfl⟩ (by kernel_rfl) rfl plain (by kernel_rfl)
#print axioms proved
end Go.Proofs.YtomilckcgmhfcaaDoor.liveOrders
