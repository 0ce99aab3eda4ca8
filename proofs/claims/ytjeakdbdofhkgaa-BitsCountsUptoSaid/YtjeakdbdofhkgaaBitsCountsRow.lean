/- The row of BitsCounts: for every input the call returns true and leaves what it was given as it was, where the input is of bulk at most 1048576. -/
import Derived.Test.YtjeakdbdofhkgaaBitsCountsLaw
import Derived.Test.YtjeakdbdofhkgaaRow
import Derived.Test.YtjeakdbdofhkgaaBulk
namespace Go.Proofs.Ytjeakdbdofhkgaa.bitsCounts
open Go.ChangeShapes Go.WideShapes Go.ChangeAt Go.RowKit
open Go.ChangeMaps (open_string shut_string)
set_option linter.unusedVariables false

theorem own : ownKnob Try.prog.godebug = none := by kernel_rfl
theorem laidOut : laidOutB Try.prog = true := by kernel_rfl

set_option maxRecDepth 100000 in
theorem lifted (os : Os) (started : os.Started) (H : Type) (enc : TypeId × Value → H) (F : Stop.Interp) :
    ReturnsInHanded {} Try.checked os 4 .any ((Rows.OpenSpec.upto Rows.bitsCountsSpec).pre6 enc Try.prog Try.f4 Rows.bitsCountsUptoRow.domain false) (((Rows.OpenSpec.upto Rows.bitsCountsSpec).at F).post enc Try.prog Try.f4 false true false false) := by
  refine returnsInHanded_of_cond (C := Try.checked) (s := Rows.OpenSpec.upto Rows.bitsCountsSpec) (k := Rows.uptoSmall) rfl own started (by kernel_rfl) Try.func4
    (OpenSpec.witness (enc := enc) (C := Try.checked) (s := Rows.OpenSpec.upto Rows.bitsCountsSpec) (k := Rows.uptoSmall) rfl false ⟨#[], #[.slice none 0 0, .slice none 0 0], []⟩ 8 (by kernel_rfl) (by kernel_rfl) (by kernel_rfl)
      (x := ([.nil, .nil], [], [])) (by kernel_rfl) rfl (by kernel_rfl)) ?_
  intro W base args ds gs before hval0 hW hcnd hk _
  have hval : ∀ (j : Nat) t v, Try.f4.params[j]? = some t → args[j]? = some v → Value.okWide Try.prog W .any base t v := hval0
  have hW' := hW
  obtain ⟨p, q, hA0, hV, rfl, hfz, hnd⟩ := hW
  have hA : DataW.TrodAll enc Try.prog W 0 (fun _ => true) true Try.f4.params.toList args.toList ds p := hA0
  rw [Try.params4] at hA hval
  obtain ⟨v0, vs0, d0, ds0, p0, q0, hargs, rfl, rfl, h0, r0⟩ := trodAll_cons hA
  obtain ⟨v1, vs1, d1, ds1, p1, q1, rfl, rfl, rfl, h1, r1⟩ := trodAll_cons r0
  obtain ⟨rfl, rfl, rfl⟩ := trodAll_nil r1
  obtain rfl : args = #[v0, v1] := by cases args; simp_all
  obtain ⟨rfl, rfl⟩ := trodVars_none hV
  have hk2 := bulks.bound hk
  obtain ⟨a0, len0, cap0, rfl⟩ := okWide_slice Try.underlying22 (hval 0 22 v0 rfl rfl)
  have k0 := h0
  have lt0 : ∀ x ∈ p0, x.block < W.heap.size := by obtain ⟨m, hm⟩ := k0; exact DataW.trod_lt m _ _ _ hm
  obtain ⟨x0, rd0, le0⟩ : ∃ x : Nat → Bool, Rd W W.heap.size a0 len0 (fun i => .bool (x i)) ∧ len0 ≤ 1048576 := by
    obtain ⟨fuel, hf⟩ := h0
    rcases Deep.open_bools Try.underlying22 Try.underlying4 (by kernel_rfl) hf with ⟨hcs, _⟩ | ⟨x, l, c, bs, hcs, _, hl, hm, hx, hcell⟩
    · simp [Value.cells] at hcs
      obtain ⟨rfl, rfl, rfl⟩ := hcs
      exact ⟨fun _ => false, Rd.none_, by omega⟩
    · simp [Value.cells] at hcs
      obtain ⟨rfl, rfl, rfl⟩ := hcs
      simp only [Prod.mk.injEq] at hx
      obtain ⟨el0, sp0, hd0, hel⟩ : ∃ el sp, d0 = .slice el sp ∧ el.length = len0 := ⟨_, _, hx.1, by simp⟩
      exact ⟨bs, rd_of fun i hi => hcell i (by omega), by have := bulks.part_le (d := d0) (l := [d0, d1]) (by simp); simp only [List.append_nil] at hk2; rw [hd0] at this hk2; have := bulks.slice_le (H := H) el0 sp0; omega⟩
  obtain ⟨a1, len1, cap1, rfl⟩ := okWide_slice Try.underlying22 (hval 1 22 v1 rfl rfl)
  have k1 := h1
  have lt1 : ∀ x ∈ p1, x.block < W.heap.size := by obtain ⟨m, hm⟩ := k1; exact DataW.trod_lt m _ _ _ hm
  obtain ⟨x1, rd1, le1⟩ : ∃ x : Nat → Bool, Rd W W.heap.size a1 len1 (fun i => .bool (x i)) ∧ len1 ≤ 1048576 := by
    obtain ⟨fuel, hf⟩ := h1
    rcases Deep.open_bools Try.underlying22 Try.underlying4 (by kernel_rfl) hf with ⟨hcs, _⟩ | ⟨x, l, c, bs, hcs, _, hl, hm, hx, hcell⟩
    · simp [Value.cells] at hcs
      obtain ⟨rfl, rfl, rfl⟩ := hcs
      exact ⟨fun _ => false, Rd.none_, by omega⟩
    · simp [Value.cells] at hcs
      obtain ⟨rfl, rfl, rfl⟩ := hcs
      simp only [Prod.mk.injEq] at hx
      obtain ⟨el1, sp1, hd1, hel⟩ : ∃ el sp, d1 = .slice el sp ∧ el.length = len1 := ⟨_, _, hx.1, by simp⟩
      exact ⟨bs, rd_of fun i hi => hcell i (by omega), by have := bulks.part_le (d := d1) (l := [d0, d1]) (by simp); simp only [List.append_nil] at hk2; rw [hd1] at this hk2; have := bulks.slice_le (H := H) el1 sp1; omega⟩
  clear hA0 hval0
  refine (bitsCounts_law W a0 len0 cap0 x0 rd0 le0 a1 len1 cap1 x1 rd1 le1).mono fun e W' ⟨he, bel⟩ => ?_
  subst he
  exact ⟨_, rfl, _, _, _, [], _, [], hW', trodAll_mk1 (shut_bool Try.underlying4 _), (trodAll_cons_mk (Below.trod laidOut (by kernel_rfl) (of_decide_eq_true (by kernel_rfl)) k0 bel lt0) (trodAll_cons_mk (Below.trod laidOut (by kernel_rfl) (of_decide_eq_true (by kernel_rfl)) k1 bel lt1) trodAll_mk0)), rfl, bel.frame _, fun h => by cases h⟩

theorem over : Rows.bitsCountsUptoRow.holds Try.pinned (Rows.OpenSpec.upto Rows.bitsCountsSpec) :=
  OpenClaim.holds_of_cond 4 Try.f4 rfl rfl rfl rfl rfl rfl rfl ⟨rfl, rfl, rfl, rfl, rfl⟩ rfl rfl rfl rfl rfl (by kernel_rfl) Try.func4 (by kernel_rfl)
    (of_decide_eq_true (by kernel_rfl)) (by unfold Func.isWrapper; first | (rw [if_pos (by decide +kernel)]; kernel_rfl) | (rw [if_neg (by decide +kernel)]; exact ⟨rfl, rfl⟩))
    (fun os started H enc _ F => lifted os started H enc F)

theorem proved : Rows.BitsCountsUptoSaid := over
#print axioms proved
end Go.Proofs.Ytjeakdbdofhkgaa.bitsCounts
