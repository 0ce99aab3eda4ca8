/- The row of TreeCopies and its card: for every input the call returns true and leaves what it was given as it was; the listed package variables lie as the program's text lays them. -/
import Derived.Test.YtlcpflaofggmeaaDoorGTre23
import Derived.Test.YtlcpflaofggmeaaDoorGTreeCopies1
import Derived.Test.YtlcpflaofggmeaaDoorCards
import Derived.Test.YtlcpflaofggmeaaDoorTie
namespace Go.Proofs.YtlcpflaofggmeaaDoor.treeCopies
open Go.ChangeShapes Go.WideShapes Go.ChangeAt Go.RowKit
open Go.ChangeMaps (open_string shut_string)
set_option linter.unusedVariables false
set_option maxRecDepth 100000

theorem own : ownKnob Tryd.prog.godebug = none := by kernel_rfl
theorem laidOut : laidOutB Tryd.prog = true := by kernel_rfl

noncomputable def laidWorld (os : Os) : World := (laidInto (laidInto (laidInto (laidInto (World.holding Tryd.prog os ⟨#[], #[], []⟩) 1 csD) 3 csK) 0 csH) 2 csK)
set_option maxRecDepth 100000 in
theorem laid_met (os : Os) : laidMet Tryd.prog Rows.treeCopiesRow.laid ((laidWorld os).forCall (fun _ _ => 0) ⟨#[], #[.int .i64 0, .slice none 0 0, .slice none 0 0, .slice none 0 0], []⟩).memory :=
  laidMet_of_run' 8 (by kernel_rfl) (by kernel_rfl)

theorem reads (os : Os) {H : Type} (enc : TypeId × Value → H) : ∃ places, DataW.whole enc Tryd.prog ((laidWorld os).forCall (fun _ _ => 0) ⟨#[], #[.int .i64 0, .slice none 0 0, .slice none 0 0, .slice none 0 0], []⟩).memory Tryd.f5.params.toList Rows.treeCopiesSpec.vars false (#[.int .i64 0, .slice none 0 0, .slice none 0 0, .slice none 0 0] : Array Value).toList 8 = some ([.lit (.int .i64 0), .nil, .nil, .nil], [], places) :=
  ⟨[], by kernel_rfl⟩

theorem contract (H : Type) (enc : TypeId × Value → H) (W : World) (base : Nat) (args : Array Value) (ds gs : List (DataW H)) (before : List MemPlace)
    (hval0 : ∀ (j : Nat) t v, Tryd.f5.params[j]? = some t → args[j]? = some v → Value.okWide Tryd.prog W .any base t v)
    (hW : DataW.Whole enc Tryd.prog Tryd.f5.params.toList Rows.treeCopiesSpec.vars false W args.toList ds gs before) (hL : laidMetH Tryd.prog Rows.treeCopiesRow.laid W)
    (hsz0 : (DataW.weightsEach Tryd.prog (Tryd.f5.params.toList ++ Rows.treeCopiesSpec.plain.varTypes Tryd.prog) (ds ++ gs)).all (· ≤ reachBytes) = true) :
    Calls Tryd.prog 5 args W fun e W' => ∃ v, e = .returned v ∧ Rows.treeCopiesSpec.post enc Tryd.prog Tryd.f5 false true false false W args v W' := by
  have hval : ∀ (j : Nat) t v, Tryd.f5.params[j]? = some t → args[j]? = some v → Value.okWide Tryd.prog W .any base t v := hval0
  have hW' := hW
  obtain ⟨p, q, hA0, hV, rfl, hfz, hnd⟩ := hW
  have hA : DataW.TrodAll enc Tryd.prog W 0 (fun _ => true) true Tryd.f5.params.toList args.toList ds p := hA0
  have hsz := hsz0
  rw [Tryd.params5] at hA hval hsz
  obtain ⟨v0, vs0, d0, ds0, p0, q0, hargs, rfl, rfl, h0, r0⟩ := trodAll_cons hA
  obtain ⟨v1, vs1, d1, ds1, p1, q1, rfl, rfl, rfl, h1, r1⟩ := trodAll_cons r0
  obtain ⟨v2, vs2, d2, ds2, p2, q2, rfl, rfl, rfl, h2, r2⟩ := trodAll_cons r1
  obtain ⟨v3, vs3, d3, ds3, p3, q3, rfl, rfl, rfl, h3, r3⟩ := trodAll_cons r2
  obtain ⟨rfl, rfl, rfl⟩ := trodAll_nil r3
  obtain rfl : args = #[v0, v1, v2, v3] := by cases args; simp_all
  obtain ⟨rfl, rfl⟩ := trodVars_none hV
  obtain ⟨ps0, hl0, -⟩ := (show laidMet Tryd.prog [("math/bits.deBruijn64tab", Rows.laid_math_bits_deBruijn64tab), ("pharos/pharosref02.constants", Rows.laid_pharos_pharosref02_constants), ("pharos/sha.start", Rows.laid_pharos_sha_start), ("pharos/sha.round", Rows.laid_pharos_sha_round)] W from hL)
  have t_deBruijn := tab_deBruijn hl0
  obtain ⟨ps1, hl1⟩ := laid_tail hl0
  have t_constants := tab_constants hl1
  obtain ⟨ps2, hl2⟩ := laid_tail hl1
  have t_start := tab_start hl2
  obtain ⟨ps3, hl3⟩ := laid_tail hl2
  have t_round := tab_round hl3
  have k0 := h0
  have lt0 : ∀ x ∈ p0, x.block < W.heap.size := by obtain ⟨m, hm⟩ := k0; exact DataW.trod_lt m _ _ _ hm
  obtain ⟨a0, rfl, rfl, rfl, w0⟩ := open_int Tryd.underlying3 (hval 0 3 v0 rfl rfl) h0
  have k1 := h1
  have lt1 : ∀ x ∈ p1, x.block < W.heap.size := by obtain ⟨m, hm⟩ := k1; exact DataW.trod_lt m _ _ _ hm
  obtain ⟨a1, len1, cap1, kd1, ix1, lf1, rfl, rd1, kb1, ib1, fb1, cp1, dl1⟩ := open_ops (ti := 3) (u := 5) Tryd.underlying40 (by kernel_rfl) (by kernel_rfl) (by kernel_rfl) Tryd.underlying3 (by decide +kernel) Tryd.underlying5 (by kernel_rfl) (hval 1 40 v1 rfl rfl) h1
  have le1 : len1 * 48 ≤ 140737488351232 := by
    rcases dl1 with h0 | ⟨el, sp, hd, hl⟩
    · rw [h0]; omega
    · have := sized_slice hsz (j := 1) (t := 40) (e := 50) (elems := el) (spare := sp) rfl (by simp [hd]) Tryd.underlying40; rw [show Tryd.prog.bytesOf 50 = 48 by kernel_rfl, hl] at this; simp only [reachBytes] at this; have h2 : len1 * 48 ≤ (len1 + sp.length) * 48 := Nat.mul_le_mul_right _ (by omega); omega
  have k2 := h2
  have lt2 : ∀ x ∈ p2, x.block < W.heap.size := by obtain ⟨m, hm⟩ := k2; exact DataW.trod_lt m _ _ _ hm
  obtain ⟨a2, len2, cap2, kd2, ix2, lf2, rfl, rd2, kb2, ib2, fb2, cp2, dl2⟩ := open_ops (ti := 3) (u := 5) Tryd.underlying40 (by kernel_rfl) (by kernel_rfl) (by kernel_rfl) Tryd.underlying3 (by decide +kernel) Tryd.underlying5 (by kernel_rfl) (hval 2 40 v2 rfl rfl) h2
  have le2 : len2 * 48 ≤ 140737488351232 := by
    rcases dl2 with h0 | ⟨el, sp, hd, hl⟩
    · rw [h0]; omega
    · have := sized_slice hsz (j := 2) (t := 40) (e := 50) (elems := el) (spare := sp) rfl (by simp [hd]) Tryd.underlying40; rw [show Tryd.prog.bytesOf 50 = 48 by kernel_rfl, hl] at this; simp only [reachBytes] at this; have h2 : len2 * 48 ≤ (len2 + sp.length) * 48 := Nat.mul_le_mul_right _ (by omega); omega
  have k3 := h3
  have lt3 : ∀ x ∈ p3, x.block < W.heap.size := by obtain ⟨m, hm⟩ := k3; exact DataW.trod_lt m _ _ _ hm
  obtain ⟨a3, len3, cap3, kd3, ix3, lf3, rfl, rd3, kb3, ib3, fb3, cp3, dl3⟩ := open_ops (ti := 3) (u := 5) Tryd.underlying40 (by kernel_rfl) (by kernel_rfl) (by kernel_rfl) Tryd.underlying3 (by decide +kernel) Tryd.underlying5 (by kernel_rfl) (hval 3 40 v3 rfl rfl) h3
  have le3 : len3 * 48 ≤ 140737488351232 := by
    rcases dl3 with h0 | ⟨el, sp, hd, hl⟩
    · rw [h0]; omega
    · have := sized_slice hsz (j := 3) (t := 40) (e := 50) (elems := el) (spare := sp) rfl (by simp [hd]) Tryd.underlying40; rw [show Tryd.prog.bytesOf 50 = 48 by kernel_rfl, hl] at this; simp only [reachBytes] at this; have h2 : len3 * 48 ≤ (len3 + sp.length) * 48 := Nat.mul_le_mul_right _ (by omega); omega
  clear hA0 hval0
  refine (treeCopies_law W a0 (wf_i64 w0) a1 len1 cap1 kd1 ix1 lf1 rd1 kb1 ib1 fb1 le1 cp1 a2 len2 cap2 kd2 ix2 lf2 rd2 kb2 ib2 fb2 le2 cp2 a3 len3 cap3 kd3 ix3 lf3 rd3 kb3 ib3 fb3 le3 cp3 ⟨t_start, t_round⟩ t_constants (tz_pkg t_deBruijn)).mono fun e W' ⟨he, bel⟩ => ?_
  subst he
  exact ⟨_, rfl, _, _, _, [], _, [], hW', trodAll_mk1 (shut_bool Tryd.underlying4 _), (trodAll_cons_mk (Below.trod laidOut (by kernel_rfl) (of_decide_eq_true (by kernel_rfl)) k0 bel lt0) (trodAll_cons_mk (Below.trod laidOut (by kernel_rfl) (of_decide_eq_true (by kernel_rfl)) k1 bel lt1) (trodAll_cons_mk (Below.trod laidOut (by kernel_rfl) (of_decide_eq_true (by kernel_rfl)) k2 bel lt2) (trodAll_cons_mk (Below.trod laidOut (by kernel_rfl) (of_decide_eq_true (by kernel_rfl)) k3 bel lt3) trodAll_mk0)))), rfl, bel.frame _, fun h => by cases h⟩

set_option maxRecDepth 100000 in
theorem lifted (os : Os) (started : os.Started) (H : Type) (enc : TypeId × Value → H) (F : Stop.Interp) :
    ReturnsInHanded {} Tryd.checked os 5 .any ((OpenSpec.ofChange Rows.treeCopiesSpec).preRow enc Tryd.prog Tryd.f5 Rows.treeCopiesRow.domain false Rows.treeCopiesRow.laid) (((OpenSpec.ofChange Rows.treeCopiesSpec).at F).post enc Tryd.prog Tryd.f5 false true false false) := by
  obtain ⟨places, hx⟩ := reads os enc
  refine returnsInHanded_of_row (C := Tryd.checked) (s := (OpenSpec.ofChange Rows.treeCopiesSpec)) own started (by kernel_rfl) Tryd.func5
    (witness_row_at (enc := enc) (C := Tryd.checked) false (laidWorld os) #[.int .i64 0, .slice none 0 0, .slice none 0 0, .slice none 0 0] rfl (by kernel_rfl) (by kernel_rfl) (by kernel_rfl)
      (OpenSpec.preRow_of_cond 8 hx (by kernel_rfl) (fun k hk => by cases hk) (by kernel_rfl) (laid_met os))) ?_
  intro W base args ds gs before hval hW _ hcond hsz hL _ _
  exact contract H enc W base args ds gs before hval hW hL hsz

theorem said : Rows.TreeCopiesSaid :=
  OpenClaim.holds_of_cond 5 Tryd.f5 rfl rfl rfl rfl rfl rfl rfl ⟨rfl, rfl, rfl, rfl, rfl⟩ rfl rfl rfl rfl rfl (by kernel_rfl) Tryd.func5 (by kernel_rfl)
    (of_decide_eq_true (by kernel_rfl)) (by unfold Func.isWrapper; first | (rw [if_pos (by decide +kernel)]; kernel_rfl) | (rw [if_neg (by decide +kernel)]; exact ⟨rfl, rfl⟩))
    (fun os started H enc _ F => by rw [OpenClaim.pre_eq_preRow]; exact lifted os started H enc F)

/-- No parameter wants a stand-in; the program's own looks are off. -/
theorem plain (f : FuncId) (fn : Func) (hf : Tryd.pinned.checked.prog.funcNamed "pharos/pharoslaw06.TreeCopies" = some f) (hfn : Tryd.pinned.checked.prog.funcs[f]? = some fn) :
    false = Tryd.pinned.checked.prog.looks [] ∧ ∀ (j : Nat) t, fn.params[j]? = some t → Tryd.pinned.checked.prog.wantsStandIn t = false := by
  obtain rfl : f = 5 := Option.some.inj ((show Tryd.prog.funcNamed "pharos/pharoslaw06.TreeCopies" = some 5 by kernel_rfl).symm.trans hf) |>.symm
  obtain rfl : fn = Tryd.f5 := (Option.some.inj (Tryd.func5.symm.trans hfn)).symm
  refine ⟨by kernel_rfl, fun j t ht => ?_⟩
  rw [Tryd.params5] at ht
  have ht' := Array.mem_of_getElem? ht
  simp at ht'
  rcases ht' with rfl | rfl
  all_goals first | exact (show Tryd.prog.wantsStandIn 3 = false by kernel_rfl) | exact (show Tryd.prog.wantsStandIn 40 = false by kernel_rfl)

theorem proved : Rows.TreeCopiesCardSaid :=
  Claim7.holds_tied_plain_at .later [] _ _ _ _ said (fun _ h => by cases h) (by kernel_rfl) (fun _ h => by cases h) treeCopies_row_tie rfl ⟨rfl, rfl⟩ (by kernel_rfl) rfl plain (by kernel_rfl)
#print axioms proved
end Go.Proofs.YtlcpflaofggmeaaDoor.treeCopies
