/- The row of LookParts: for every input the call returns true and leaves what it was given as it was. -/
import Derived.Test.YtjphchcjneofhaaStRow
import Derived.Test.YtjphchcjneofhaaLookPartsLaw
import Derived.Test.YtjphchcjneofhaaRow
namespace Go.Proofs.Ytjphchcjneofhaa.lookParts
open Go.ChangeShapes Go.WideShapes Go.ChangeAt Go.RowKit
open Go.ChangeMaps (open_string shut_string)
set_option linter.unusedVariables false

theorem own : ownKnob Try.prog.godebug = none := by kernel_rfl
theorem laidOut : laidOutB Try.prog = true := by kernel_rfl

theorem wit (w : World) (base : Nat) : Input.okWide Try.prog w .any base 4 ⟨#[], #[.agg z49, .slice none 0 0, .slice none 0 0, .int .u64 0], []⟩ := by
  refine ⟨fun o ho => by simp at ho, fun gv hg => by simp at hg, by kernel_rfl, Try.f4, Try.func4, by kernel_rfl, by kernel_rfl, by kernel_rfl, by kernel_rfl, fun j t v h1 h2 => ?_⟩
  rw [Try.params4] at h1
  have hj : j < 4 := (Array.getElem?_eq_some_iff.1 h1).1
  match j, hj, h1, h2 with
  | 0, _, h1, h2 => injection h1 with h1; injection h2 with h2; subst h1 h2; exact z49_ok w base
  | 1, _, h1, h2 => injection h1 with h1; injection h2 with h2; subst h1 h2; exact Value.okWide_of_okWideB (by kernel_rfl)
  | 2, _, h1, h2 => injection h1 with h1; injection h2 with h2; subst h1 h2; exact Value.okWide_of_okWideB (by kernel_rfl)
  | 3, _, h1, h2 => injection h1 with h1; injection h2 with h2; subst h1 h2; exact Value.okWide_of_okWideB (by kernel_rfl)

set_option maxRecDepth 100000 in
theorem lifted (os : Os) (started : os.Started) (H : Type) (enc : TypeId × Value → H) :
    ReturnsInHanded {} Try.checked os 4 .any (Rows.lookPartsSpec.pre6 enc Try.prog Try.f4 Rows.lookPartsRow.domain false) (Rows.lookPartsSpec.post enc Try.prog Try.f4 false true false false) := by
  refine returnsInHanded_of_change_sized (C := Try.checked) own started (by kernel_rfl) Try.func4
    (witness_st (enc := enc) (C := Try.checked) false #[.agg z49, .slice none 0 0, .slice none 0 0, .int .u64 0] 8 (by kernel_rfl) (by kernel_rfl) wit (by kernel_rfl) (by kernel_rfl)) ?_
  intro W base args ds gs before hval0 hW hcnd hsz0 _
  have hsz : (DataW.weightsEach Try.prog (Try.f4.params.toList ++ Rows.lookPartsSpec.plain.varTypes Try.prog) (ds ++ gs)).all (· ≤ reachBytes) = true := hsz0
  have hval : ∀ (j : Nat) t v, Try.f4.params[j]? = some t → args[j]? = some v → Value.okWide Try.prog W .any base t v := hval0
  have hW' := hW
  obtain ⟨p, q, hA0, hV, rfl, hfz, hnd⟩ := hW
  have hA : DataW.TrodAll enc Try.prog W 0 (fun _ => true) true Try.f4.params.toList args.toList ds p := hA0
  rw [Try.params4] at hA hval hsz
  obtain ⟨v0, vs0, d0, ds0, p0, q0, hargs, rfl, rfl, h0, r0⟩ := trodAll_cons hA
  obtain ⟨v1, vs1, d1, ds1, p1, q1, rfl, rfl, rfl, h1, r1⟩ := trodAll_cons r0
  obtain ⟨v2, vs2, d2, ds2, p2, q2, rfl, rfl, rfl, h2, r2⟩ := trodAll_cons r1
  obtain ⟨v3, vs3, d3, ds3, p3, q3, rfl, rfl, rfl, h3, r3⟩ := trodAll_cons r2
  obtain ⟨rfl, rfl, rfl⟩ := trodAll_nil r3
  obtain rfl : args = #[v0, v1, v2, v3] := by cases args; simp_all
  obtain ⟨rfl, rfl⟩ := trodVars_none hV
  have k0 := h0
  have lt0 : ∀ x ∈ p0, x.block < W.heap.size := by obtain ⟨m, hm⟩ := k0; exact DataW.trod_lt m _ _ _ hm
  obtain ⟨a0, rfl, ok0⟩ := st_open (hval 0 49 v0 rfl rfl) h0
  obtain ⟨a1, len1, cap1, rfl⟩ := okWide_slice Try.underlying37 (hval 1 37 v1 rfl rfl)
  have k1 := h1
  have lt1 : ∀ x ∈ p1, x.block < W.heap.size := by obtain ⟨m, hm⟩ := k1; exact DataW.trod_lt m _ _ _ hm
  obtain ⟨z1, rd1, zb1, le1⟩ : ∃ z : Nat → Nat, Rd W W.heap.size a1 len1 (fun i => .int .u64 ((z i : Nat) : Int)) ∧ (∀ i, z i < 18446744073709551616) ∧ len1 ≤ 140737488351232 := by
    obtain ⟨fuel, hf⟩ := h1
    rcases open_ints Try.underlying37 Try.underlying22 (by kernel_rfl) hf with ⟨hcs, _⟩ | ⟨x, l, c, zs, hcs, _, hl, hm, hz, hx, hcell, hwz⟩
    · simp [Value.cells] at hcs
      obtain ⟨rfl, rfl, rfl⟩ := hcs
      exact ⟨fun _ => 0, Rd.none_, fun _ => by simp, by omega⟩
    · simp [Value.cells] at hcs
      obtain ⟨rfl, rfl, rfl⟩ := hcs
      simp only [Prod.mk.injEq] at hx
      have hzl : zs.length = cap1 := by simpa using hz
      obtain ⟨el1, sp1, hd1, hel⟩ : ∃ el sp, d1 = .slice el sp ∧ el.length = len1 := ⟨_, _, hx.1, by simp [lits]; omega⟩
      obtain ⟨z, hr, hb⟩ := rd_ints (M := 18446744073709551616) (len := len1) (fun n hn => wf_u64 (hwz n hn)) (by omega) hcell (by omega)
      exact ⟨z, hr, hb, by have := sized_slice hsz (j := 1) (t := 37) (e := 22) (elems := el1) (spare := sp1) rfl (by simp [hd1]) Try.underlying37; rw [show Try.prog.bytesOf 22 = 8 by kernel_rfl] at this; simp only [reachBytes] at this; omega⟩
  obtain ⟨a2, len2, cap2, rfl⟩ := okWide_slice Try.underlying37 (hval 2 37 v2 rfl rfl)
  have k2 := h2
  have lt2 : ∀ x ∈ p2, x.block < W.heap.size := by obtain ⟨m, hm⟩ := k2; exact DataW.trod_lt m _ _ _ hm
  obtain ⟨z2, rd2, zb2, le2⟩ : ∃ z : Nat → Nat, Rd W W.heap.size a2 len2 (fun i => .int .u64 ((z i : Nat) : Int)) ∧ (∀ i, z i < 18446744073709551616) ∧ len2 ≤ 140737488351232 := by
    obtain ⟨fuel, hf⟩ := h2
    rcases open_ints Try.underlying37 Try.underlying22 (by kernel_rfl) hf with ⟨hcs, _⟩ | ⟨x, l, c, zs, hcs, _, hl, hm, hz, hx, hcell, hwz⟩
    · simp [Value.cells] at hcs
      obtain ⟨rfl, rfl, rfl⟩ := hcs
      exact ⟨fun _ => 0, Rd.none_, fun _ => by simp, by omega⟩
    · simp [Value.cells] at hcs
      obtain ⟨rfl, rfl, rfl⟩ := hcs
      simp only [Prod.mk.injEq] at hx
      have hzl : zs.length = cap2 := by simpa using hz
      obtain ⟨el2, sp2, hd2, hel⟩ : ∃ el sp, d2 = .slice el sp ∧ el.length = len2 := ⟨_, _, hx.1, by simp [lits]; omega⟩
      obtain ⟨z, hr, hb⟩ := rd_ints (M := 18446744073709551616) (len := len2) (fun n hn => wf_u64 (hwz n hn)) (by omega) hcell (by omega)
      exact ⟨z, hr, hb, by have := sized_slice hsz (j := 2) (t := 37) (e := 22) (elems := el2) (spare := sp2) rfl (by simp [hd2]) Try.underlying37; rw [show Try.prog.bytesOf 22 = 8 by kernel_rfl] at this; simp only [reachBytes] at this; omega⟩
  obtain ⟨a3, rfl, rfl, rfl, w3⟩ := open_int Try.underlying22 (hval 3 22 v3 rfl rfl) h3
  clear hA0 hval0
  have e3 : a3 = (a3.toNat : Int) := by have := wf_u64 w3; omega
  have hcall := lookParts_law W a0 ok0 a1 len1 cap1 z1 rd1 zb1 le1 a2 len2 cap2 z2 rd2 zb2 le2 a3.toNat (by have := wf_u64 w3; omega)
  rw [← e3] at hcall
  refine (hcall).mono fun e W' ⟨he, bel⟩ => ?_
  subst he
  exact ⟨_, rfl, _, _, _, [], _, [], hW', trodAll_mk1 (shut_bool Try.underlying4 _), (trodAll_cons_mk (Below.trod laidOut (by kernel_rfl) (of_decide_eq_true (by kernel_rfl)) k0 bel lt0) (trodAll_cons_mk (Below.trod laidOut (by kernel_rfl) (of_decide_eq_true (by kernel_rfl)) k1 bel lt1) (trodAll_cons_mk (Below.trod laidOut (by kernel_rfl) (of_decide_eq_true (by kernel_rfl)) k2 bel lt2) (trodAll_cons_mk (shut_int Try.underlying22 w3) trodAll_mk0)))), rfl, bel.frame _, fun h => by cases h⟩

theorem over : Rows.lookPartsRow.holds Try.pinned (OpenSpec.ofChange Rows.lookPartsSpec) :=
  OpenClaim.holds_of_wide 4 Try.f4 rfl rfl rfl rfl rfl rfl rfl ⟨rfl, rfl, rfl, rfl, rfl⟩ rfl rfl rfl rfl rfl (by kernel_rfl) Try.func4 (by kernel_rfl)
    (of_decide_eq_true (by kernel_rfl)) (by unfold Func.isWrapper; first | (rw [if_pos (by decide +kernel)]; kernel_rfl) | (rw [if_neg (by decide +kernel)]; exact ⟨rfl, rfl⟩))
    (fun os started H enc _ => lifted os started H enc)

theorem proved : Rows.LookPartsSaid := over
#print axioms proved
end Go.Proofs.Ytjphchcjneofhaa.lookParts
