/- The row of LookActives: for every input the call returns true and leaves what it was given as it was. -/
import Derived.Test.YtjphchcjneofhaaStRow
import Derived.Test.YtjphchcjneofhaaLookActivesLaw
import Derived.Test.YtjphchcjneofhaaRow
namespace Go.Proofs.Ytjphchcjneofhaa.lookActives
open Go.ChangeShapes Go.WideShapes Go.ChangeAt Go.RowKit
open Go.ChangeMaps (open_string shut_string)
set_option linter.unusedVariables false

theorem own : ownKnob Try.prog.godebug = none := by kernel_rfl
theorem laidOut : laidOutB Try.prog = true := by kernel_rfl

theorem wit (w : World) (base : Nat) : Input.okWide Try.prog w .any base 5 ⟨#[], #[.agg z49, .int .u64 0], []⟩ := by
  refine ⟨fun o ho => by simp at ho, fun gv hg => by simp at hg, by kernel_rfl, Try.f5, Try.func5, by kernel_rfl, by kernel_rfl, by kernel_rfl, by kernel_rfl, fun j t v h1 h2 => ?_⟩
  rw [Try.params5] at h1
  have hj : j < 2 := (Array.getElem?_eq_some_iff.1 h1).1
  match j, hj, h1, h2 with
  | 0, _, h1, h2 => injection h1 with h1; injection h2 with h2; subst h1 h2; exact z49_ok w base
  | 1, _, h1, h2 => injection h1 with h1; injection h2 with h2; subst h1 h2; exact Value.okWide_of_okWideB (by kernel_rfl)

set_option maxRecDepth 100000 in
theorem lifted (os : Os) (started : os.Started) (H : Type) (enc : TypeId × Value → H) :
    ReturnsInHanded {} Try.checked os 5 .any (Rows.lookActivesSpec.pre6 enc Try.prog Try.f5 Rows.lookActivesRow.domain false) (Rows.lookActivesSpec.post enc Try.prog Try.f5 false true false false) := by
  refine returnsInHanded_of_change_sized (C := Try.checked) own started (by kernel_rfl) Try.func5
    (witness_st (enc := enc) (C := Try.checked) false #[.agg z49, .int .u64 0] 8 (by kernel_rfl) (by kernel_rfl) wit (by kernel_rfl) (by kernel_rfl)) ?_
  intro W base args ds gs before hval0 hW hcnd hsz0 _
  have hsz : (DataW.weightsEach Try.prog (Try.f5.params.toList ++ Rows.lookActivesSpec.plain.varTypes Try.prog) (ds ++ gs)).all (· ≤ reachBytes) = true := hsz0
  have hval : ∀ (j : Nat) t v, Try.f5.params[j]? = some t → args[j]? = some v → Value.okWide Try.prog W .any base t v := hval0
  have hW' := hW
  obtain ⟨p, q, hA0, hV, rfl, hfz, hnd⟩ := hW
  have hA : DataW.TrodAll enc Try.prog W 0 (fun _ => true) true Try.f5.params.toList args.toList ds p := hA0
  rw [Try.params5] at hA hval hsz
  obtain ⟨v0, vs0, d0, ds0, p0, q0, hargs, rfl, rfl, h0, r0⟩ := trodAll_cons hA
  obtain ⟨v1, vs1, d1, ds1, p1, q1, rfl, rfl, rfl, h1, r1⟩ := trodAll_cons r0
  obtain ⟨rfl, rfl, rfl⟩ := trodAll_nil r1
  obtain rfl : args = #[v0, v1] := by cases args; simp_all
  obtain ⟨rfl, rfl⟩ := trodVars_none hV
  have k0 := h0
  have lt0 : ∀ x ∈ p0, x.block < W.heap.size := by obtain ⟨m, hm⟩ := k0; exact DataW.trod_lt m _ _ _ hm
  obtain ⟨a0, rfl, ok0⟩ := st_open (hval 0 49 v0 rfl rfl) h0
  obtain ⟨a1, rfl, rfl, rfl, w1⟩ := open_int Try.underlying22 (hval 1 22 v1 rfl rfl) h1
  clear hA0 hval0
  have e1 : a1 = (a1.toNat : Int) := by have := wf_u64 w1; omega
  have hcall := lookActives_law W a0 ok0 a1.toNat (by have := wf_u64 w1; omega)
  rw [← e1] at hcall
  refine (hcall).mono fun e W' ⟨he, bel⟩ => ?_
  subst he
  exact ⟨_, rfl, _, _, _, [], _, [], hW', trodAll_mk1 (shut_bool Try.underlying4 _), (trodAll_cons_mk (Below.trod laidOut (by kernel_rfl) (of_decide_eq_true (by kernel_rfl)) k0 bel lt0) (trodAll_cons_mk (shut_int Try.underlying22 w1) trodAll_mk0)), rfl, bel.frame _, fun h => by cases h⟩

theorem over : Rows.lookActivesRow.holds Try.pinned (OpenSpec.ofChange Rows.lookActivesSpec) :=
  OpenClaim.holds_of_wide 5 Try.f5 rfl rfl rfl rfl rfl rfl rfl ⟨rfl, rfl, rfl, rfl, rfl⟩ rfl rfl rfl rfl rfl (by kernel_rfl) Try.func5 (by kernel_rfl)
    (of_decide_eq_true (by kernel_rfl)) (by unfold Func.isWrapper; first | (rw [if_pos (by decide +kernel)]; kernel_rfl) | (rw [if_neg (by decide +kernel)]; exact ⟨rfl, rfl⟩))
    (fun os started H enc _ => lifted os started H enc)

theorem proved : Rows.LookActivesSaid := over
#print axioms proved
end Go.Proofs.Ytjphchcjneofhaa.lookActives
