/- A start at which a call with a state as its argument is made. -/
import Derived.Test.YtecgogeebponlaaDoorZst
import Derived.WitnessAt
import Derived.Handed
namespace Go.Proofs.YtecgogeebponlaaDoor
set_option maxRecDepth 40000
open Go.ChangeShapes Go.WideShapes Go.ChangeAt Go.RowKit
theorem witness_st {H : Type} {enc : TypeId × Value → H} {C : Checked} {os : Os} {f : FuncId} {fn : Func} {s : ChangeSpec} {conds : List PathCond} {apart : Bool} (modest : Bool) (args : Array Value) (fuel : Nat)
    (hv : (World.plainHolding C.prog os ⟨#[], args, []⟩).variablesB C.prog = true)
    (hr : ((World.plainHolding C.prog os ⟨#[], args, []⟩).heap.toList.drop C.prog.globals.size).take ((begin C.prog (fun _ _ => 0) default).world.heap.size - C.prog.globals.size) =
      (begin C.prog (fun _ _ => 0) default).world.heap.toList.drop C.prog.globals.size)
    (hok : ∀ w base, Input.okWide C.prog w .any base f ⟨#[], args, []⟩)
    (hpre : s.preB enc C.prog fn conds apart (World.plainHolding C.prog os ⟨#[], args, []⟩).memory args fuel = true)
    (hsz : s.sizedB enc C.prog fn apart (World.plainHolding C.prog os ⟨#[], args, []⟩).memory args fuel = true) :
    ∃ (w : World) (tape : Tape) (i : Input), w.os = os ∧ (w.forCall tape i).Shaped C.prog ∧ i.vars = [] ∧ Input.okWide C.prog (w.forCall tape i) .any w.heap.size f i ∧
      s.pre6 enc C.prog fn conds apart (w.forCall tape i).memory i.args ∧ ({ modest := modest } : Assume).holds C.prog (lone (Frame.enter C.prog f i.args .normal) [] (w.forCall tape i)) :=
  ⟨World.holding C.prog os ⟨#[], args, []⟩, fun _ _ => 0, ⟨#[], args, []⟩, rfl, World.shaped_of_B hv hr, rfl, hok _ _, ⟨ChangeSpec.pre_of_preB hpre, sizedMet_of_sizedB hsz⟩, by
    simp only [Assume.holds]
    exact ⟨by simp, by simp, fun _ => Modest.zero, by simp, by simp⟩⟩
def chk (P : Program) (w : World) : List Value → List TypeId → Bool
  | [], [] => true
  | v :: vs, u :: us => Cell.okWideB P w u v && chk P w vs us
  | _, _ => false
theorem chk_len {P : Program} {w : World} : ∀ {vs : List Value} {us : List TypeId}, chk P w vs us = true → vs.length = us.length
  | [], [], _ => rfl
  | v :: vs, u :: us, h => by
    simp only [chk, Bool.and_eq_true] at h
    simp [chk_len h.2]
  | [], _ :: _, h => by cases h
  | _ :: _, [], h => by cases h
theorem chk_at {P : Program} {w : World} : ∀ {vs : List Value} {us : List TypeId}, chk P w vs us = true → ∀ (i : Nat) (v : Value), vs[i]? = some v → ∃ u, us[i]? = some u ∧ Cell.okWideB P w u v = true
  | [], [], _, i, v, h => by simp at h
  | v :: vs, u :: us, h, i, x, hx => by
    simp only [chk, Bool.and_eq_true] at h
    cases i with
    | zero => simp at hx; subst hx; exact ⟨u, rfl, h.1⟩
    | succ i => exact chk_at h.2 i x (by simpa using hx)
  | [], _ :: _, h, _, _, _ => by cases h
  | _ :: _, [], h, _, _, _ => by cases h
noncomputable def ts49 : List TypeId := (Tryd.prog.cellTypes Tryd.prog.depth 49).getD []
theorem ts49_some : Tryd.prog.cellTypes Tryd.prog.depth 49 = some ts49 := by
  have h : (Tryd.prog.cellTypes Tryd.prog.depth 49).isSome = true := by kernel_rfl
  unfold ts49
  cases hb : Tryd.prog.cellTypes Tryd.prog.depth 49 with
  | none => rw [hb] at h; cases h
  | some x => rfl
theorem chk49 (w : World) : chk Tryd.prog w z49.toList ts49 = true := by kernel_rfl
theorem cells49 : Tryd.prog.cellsOf 49 = 1957 := by kernel_rfl
theorem z49_ok (w : World) (base : Nat) : Value.okWide Tryd.prog w .any base 49 (.agg z49) := by
  unfold Value.okWide
  simp only [Tryd.underlying49]
  have hl := chk_len (chk49 w)
  have hl2 : z49.size = ts49.length := by simpa using hl
  refine ⟨z49, rfl, by rw [z49_size, cells49], ts49, ts49_some, ⟨1, by omega⟩, fun i v hv => ?_⟩
  have hi : i < z49.size := (Array.getElem?_eq_some_iff.1 hv).1
  obtain ⟨u, hu, hk⟩ := chk_at (chk49 w) i v (by rw [Array.getElem?_toList]; exact hv)
  exact ⟨u, by rw [Nat.mod_eq_of_lt (by omega)]; exact hu, Cell.okWide_of_okWideB hk⟩
end Go.Proofs.YtecgogeebponlaaDoor
